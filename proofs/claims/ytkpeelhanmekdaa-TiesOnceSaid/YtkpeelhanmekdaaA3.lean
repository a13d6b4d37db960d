/- term.look.part at right terms: the walk. -/
import Derived.Test.YtkpeelhanmekdaaA2
import Derived.Deep.RegionHeld3
namespace Go.Proofs.Ytkpeelhanmekdaa.G
set_option linter.unusedVariables false
set_option linter.unusedSimpArgs false
set_option linter.constructorNameAsVariable false
open Go.RowKit
set_option maxRecDepth 100000


theorem run_store_nilFunc' {P : Program} {w : World} {a : Addr} {m : Mode} : (store a .nilFunc m).run P w = stored P w a .nilFunc m := run_store P w a _ m rfl
theorem run_store_func' {P : Program} {w : World} {a : Addr} {m : Mode} (fn : Fn) (first captured : Array Value) : (store a (.func fn first captured) m).run P w = stored P w a (.func fn first captured) m := run_store P w a _ m rfl

attribute [local go_sem] run_store_complex run_store_func' run_store_nilFunc'
abbrev kL (n : Int) : Array Value := #[.int .i64 n, .nilFunc, .nilFunc, fv 40, fv 33, fv 41, fv 33, fv 42, fv 43, fv 38, fv 35, fv 38, fv 35, fv 39, fv 37, fv 39, fv 37, fv 45, fv 37]
/-- block p holds a look that has counted n -/
def LkAt (w : World) (p n : Nat) : Prop := w.heap[p]? = some (.cells (kL n) 74 (0, 0))
theorem LkAt.cell {w : World} {p n : Nat} (h : LkAt w p n) (i : Nat) (hi : i < 19) : w.cell? ⟨p, i, none⟩ = some ((kL n)[i]'hi) := by
  have hs : (kL n).size = 19 := rfl
  unfold LkAt at h
  simp [World.cell?, h, hi]
theorem LkAt.block {w w' : World} {p n : Nat} (h : LkAt w p n) (e : w'.heap[p]? = w.heap[p]?) : LkAt w' p n := e.trans h
theorem LkAt.lt {w : World} {p n : Nat} (h : LkAt w p n) : p < w.heap.size := (Array.getElem?_eq_some_iff.1 h).1
theorem LkAt.fz {w : World} {p n : Nat} (h : LkAt w p n) (o : Nat) : w.frozen? ⟨p, o, none⟩ = false := by simp [World.frozen?, LkAt] at h ⊢; simp [h]
theorem LkAt.set {w : World} {p n m : Nat} (h : LkAt w p n) : LkAt (w.setCell ⟨p, 0, none⟩ (.int .i64 (m : Int))) p m := heap_setCell_at h
def LkPost (W : World) (p m : Nat) (e : Ending) (w' : World) : Prop := e = .returned (.int .i64 0) ∧ LkAt w' p m ∧ Turn (fun i => i = p) W w'
/-- nine cells at a block's head -/
def NineAt (w : World) (b : Nat) (k n : Int) (re im : Nat) (s : ByteArray) (node boot idn : Int) (bv lv : Value) : Prop :=
  w.cell? ⟨b, 0, none⟩ = some (.int .i64 k) ∧ w.cell? ⟨b, 1, none⟩ = some (.int .i64 n) ∧ w.cell? ⟨b, 2, none⟩ = some (.complex .f64 re im) ∧ w.cell? ⟨b, 3, none⟩ = some (.string s) ∧
  w.cell? ⟨b, 4, none⟩ = some (.int .i64 node) ∧ w.cell? ⟨b, 5, none⟩ = some (.int .u32 boot) ∧ w.cell? ⟨b, 6, none⟩ = some (.int .u64 idn) ∧ w.cell? ⟨b, 7, none⟩ = some bv ∧ w.cell? ⟨b, 8, none⟩ = some lv
theorem NineAt.block {w w' : World} {b : Nat} {k n : Int} {re im : Nat} {s : ByteArray} {node boot idn : Int} {bv lv : Value} (h : NineAt w b k n re im s node boot idn bv lv) (e : w'.heap[b]? = w.heap[b]?) : NineAt w' b k n re im s node boot idn bv lv := by
  have c : ∀ o, w'.cell? ⟨b, o, none⟩ = w.cell? ⟨b, o, none⟩ := fun o => World.cell?_of_block (w := w) e
  unfold NineAt
  simp only [c]
  exact h
theorem nine_new (w : World) (k n : Int) (re im : Nat) (s : ByteArray) (node boot idn : Int) (bv lv : Value) (t : TypeId) : NineAt (w.alloc (.cells #[.int .i64 k, .int .i64 n, .complex .f64 re im, .string s, .int .i64 node, .int .u32 boot, .int .u64 idn, bv, lv] t)) w.heap.size k n re im s node boot idn bv lv := by
  refine ⟨?_, ?_, ?_, ?_, ?_, ?_, ?_, ?_, ?_⟩ <;> simp
set_option maxHeartbeats 2000000 in
theorem lk_walk (k f1 f2 : Nat) (n node boot idn : Int) (re im : Nat) (s : ByteArray) (ba : Option Addr) (bn bc : Nat) (la : Option Addr) (lc : Nat) (l : List Tm) (vs : List (Array Value)) (deep : Nat) (F : Nat → Prop) (p m : Nat) (w : World)
    (hk1 : 1 ≤ k) (hk8 : k ≤ 8) (ht1 : ∀ m : Int, (kL m)[1 + k * 2]? = some (fv f1)) (ht2 : ∀ m : Int, (kL m)[1 + k * 2 + 1]? = some (fv f2))
    (hc1 : ∀ args w, (callFunc f1 args).run Try.prog w = .ok (.enter f1 args) w) (hc2 : ∀ args w, (callFunc f2 args).run Try.prog w = .ok (.enter f2 args) w)
    (hbare : ∀ w, Calls Try.prog f1 #[.agg #[.int .i64 k, .int .i64 n, .complex .f64 re im, .string s, .int .i64 node, .int .u32 boot, .int .u64 idn, .slice ba bn bc, .slice la l.length lc]] w (RB w (vZ k)))
    (hgood : ∀ w, Calls Try.prog f2 #[.agg #[.int .i64 k, .int .i64 n, .complex .f64 re im, .string s, .int .i64 node, .int .u32 boot, .int .u64 idn, .slice ba bn bc, .slice la l.length lc]] w (RB w (.bool true)))
    (hrec : ∀ t ∈ l, ∀ c m w, LkAt w p m → Rep w F t c → m + sizeT t ≤ 4096 → Calls Try.prog 28 #[.pointer (some ⟨p, 0, none⟩), .agg c, .int .i64 ((deep : Int) + 1)] w (LkPost w p (m + sizeT t)))
    (hdeep : deep ≤ 24) (hll : l.length ≤ 256) (hsz : m + 1 + bn + sizeTs l ≤ 4096) (hp : LkAt w p m)
    (hrow : Row w F 44 9 (.slice la l.length lc) l.length (cat vs)) (hreps : Reps w F l vs) (hF : ∀ b, F b → b ≠ p) :
    Calls Try.prog 28 #[.pointer (some ⟨p, 0, none⟩), .agg #[.int .i64 k, .int .i64 n, .complex .f64 re im, .string s, .int .i64 node, .int .u32 boot, .int .u64 idn, .slice ba bn bc, .slice la l.length lc], .int .i64 (deep : Int)] w (LkPost w p (m + 1 + bn + sizeTs l)) := by
  have HP := Lib.hid hp
  have HR := Lib.hid hrow
  have HS := Lib.hid hreps
  have HH := Lib.hid hrec
  have T1 := Lib.hid ht1
  have T2 := Lib.hid ht2
  have B1 := Lib.hid hbare
  have B2 := Lib.hid hgood
  have HF := Lib.hid hF
  have HZ := Lib.hid hsz
  have hbn : m + 1 + bn ≤ 4096 := by omega
  have lp := hp.lt
  have hk0 : (0 : Int) ≤ (k : Int) := by omega
  have hk9 : (k : Int) < 9 := by omega
  clear hp hrow hreps hrec ht1 ht2 hbare hgood hF hsz
  go_enter Try.func28, Try.ntmps28
  go_wp2_with fail
  have HT := Lib.hid (Turn.alloc (fun i => i = p) w (.cells #[.int .i64 k, .int .i64 n, .complex .f64 re im, .string s, .int .i64 node, .int .u32 boot, .int .u64 idn, .slice ba bn bc, .slice la l.length lc] 44))
  have HN := Lib.hid (nine_new w k n re im s node boot idn (.slice ba bn bc) (.slice la l.length lc) 44)
  have HP2 := Lib.hid (HP.out.block (((Below.refl _ w).alloc (Nat.le_refl _) (.cells #[.int .i64 k, .int .i64 n, .complex .f64 re im, .string s, .int .i64 node, .int .u32 boot, .int .u64 idn, .slice ba bn bc, .slice la l.length lc] 44)).block p lp))
  have hbp : ¬ w.heap.size = p := by omega
  have hsz2 : w.heap.size < (w.alloc (.cells #[.int .i64 k, .int .i64 n, .complex .f64 re im, .string s, .int .i64 node, .int .u32 boot, .int .u64 idn, .slice ba bn bc, .slice la l.length lc] 44)).heap.size := by simp
  generalize hbb : w.heap.size = b at *
  have HB := Lib.hid hbb
  clear hbb
  generalize w.alloc (.cells #[.int .i64 k, .int .i64 n, .complex .f64 re im, .string s, .int .i64 node, .int .u32 boot, .int .u64 idn, .slice ba bn bc, .slice la l.length lc] 44) = w2 at *
  have q0 : w2.cell? ⟨p, 0, none⟩ = some (.int .i64 m) := HP2.out.cell 0 (by omega)
  have k7 := HN.out.2.2.2.2.2.2.2.1
  have HT2 : Hid (Turn (fun i => i = p) w w2.drew) := HT.out.drew
  have hsz3 : b < w2.drew.heap.size := hsz2
  go_still_tail 11, (by kernel_rfl)
  change wpList _ _ _ _ _ w2.drew
  have HN3 : Hid (NineAt w2.drew b k n re im s node boot idn (.slice ba bn bc) (.slice la l.length lc)) := HN.out
  have HP3 : Hid (LkAt w2.drew p m) := HP2.out
  clear q0 k7 HT HN HP2 hsz2
  generalize w2.drew = w3 at *
  have r0 : w3.cell? ⟨p, 0, none⟩ = some (.int .i64 m) := HP3.out.cell 0 (by omega)
  have rf : w3.frozen? ⟨p, 0, none⟩ = false := HP3.out.fz 0
  have k0 := HN3.out.1
  go_wp2_with fail
  have HP4 : Hid (LkAt (w3.setCell ⟨p, 0, none⟩ (.int .i64 ((m : Int) + (1 + (bn : Int))))) p (m + (1 + bn))) := HP3.out.set (m := m + (1 + bn))
  have HT4 := Lib.hid (HT2.out.trans (Turn.setCell w3 p 0 (.int .i64 ((m : Int) + (1 + (bn : Int))))))
  have HN4 := Lib.hid (HN3.out.block (Below.heap_setCell w3 ⟨p, 0, none⟩ (.int .i64 ((m : Int) + (1 + (bn : Int)))) _ hbp))
  have hs4 : b < (w3.setCell ⟨p, 0, none⟩ (.int .i64 ((m : Int) + (1 + (bn : Int))))).heap.size := by simp [World.setCell]; omega
  clear r0 rf k0 HT2 HN3 HP3 hsz3
  generalize w3.setCell ⟨p, 0, none⟩ (.int .i64 ((m : Int) + (1 + (bn : Int)))) = w4 at *
  have e3 : w4.cell? ⟨p, 1 + k * 2, none⟩ = some (fv f1) := by
    have h := HP4.out
    unfold LkAt at h
    rw [← T1.out ((m + (1 + bn) : Nat) : Int)]
    simp [World.cell?, h]
  have e4 : w4.cell? ⟨p, 1 + k * 2 + 1, none⟩ = some (fv f2) := by
    have h := HP4.out
    unfold LkAt at h
    rw [← T2.out ((m + (1 + bn) : Nat) : Int)]
    simp [World.cell?, h]
  have k0 := HN4.out.1
  have n3 := World.new_ne w4 ⟨p, 1 + k * 2, none⟩ e3
  have n4 := World.new_ne w4 ⟨p, 1 + k * 2 + 1, none⟩ e4
  have n0 := World.new_ne w4 ⟨b, 0, none⟩ k0
  go_region_held3 (fun w' => w'.cell? ⟨p, 1 + k * 2, none⟩ = some (fv f1) ∧ w'.cell? ⟨p, 1 + k * 2 + 1, none⟩ = some (fv f2) ∧ w'.cell? ⟨b, 0, none⟩ = some (.int .i64 k)) (go_keep) (fail)
  have HB5 : Below w4.heap.size w4 (w4.alloc (.cells #[fv f1, fv f2] 70)).drew := ((Below.refl _ w4).alloc (Nat.le_refl _) _).drew
  have HN5 : Hid (NineAt (w4.alloc (.cells #[fv f1, fv f2] 70)).drew b k n re im s node boot idn (.slice ba bn bc) (.slice la l.length lc)) := HN4.out.block (HB5.block b hs4)
  have HP5 : Hid (LkAt (w4.alloc (.cells #[fv f1, fv f2] 70)).drew p (m + (1 + bn))) := HP4.out.block (HB5.block p (by omega))
  have d0 : (w4.alloc (.cells #[fv f1, fv f2] 70)).drew.cell? ⟨w4.heap.size, 0, none⟩ = some (fv f1) := by simp
  have d1 : (w4.alloc (.cells #[fv f1, fv f2] 70)).drew.cell? ⟨w4.heap.size, 1, none⟩ = some (fv f2) := by simp
  have hs5 : w4.heap.size < (w4.alloc (.cells #[fv f1, fv f2] 70)).drew.heap.size := by simp
  have HT5 := Lib.hid (HT4.out.trans (Turn.of_below (S := fun i => i = p) HB5))
  clear k0 n0 n3 n4 e3 e4 HB5 T1 T2 HN4 HP4
  rename_i hHeld
  clear hHeld
  generalize (w4.alloc (.cells #[fv f1, fv f2] 70)).drew = w5 at *
  generalize w4.heap.size = dd at *
  clear HT4
  obtain ⟨k0, k1, k2, k3, k4, k5, k6, k7, k8⟩ := HN5.out
  go_wp2_with fail
  refine (B1.out _).mono ?_
  rintro e w6 ⟨rfl, hb6⟩
  go_wp2_with fail
  refine (empty_any _ _).mono ?_
  rintro e w7 ⟨rfl, hb7⟩
  have hb57 := hb6.trans (hb7.mono hb6.size)
  have HN7 := Lib.hid (HN5.out.block (hb57.block b (by omega)))
  have HP7 := Lib.hid (HP5.out.block (hb57.block p (by omega)))
  have e1 : w7.cell? ⟨dd, 1, none⟩ = some (fv f2) := (hb57.cell (p := ⟨dd, 1, none⟩) hs5).trans d1
  have HT7 := Lib.hid (HT5.out.trans (Turn.of_below (S := fun i => i = p) hb57))
  have hs7 : b < w7.heap.size := by have := hb57.size; omega
  clear hb6 hb7 hb57 k0 k1 k2 k3 k4 k5 k6 k7 k8 d0 d1 hs5 HT5 HN5 HP5 B1
  obtain ⟨k0, k1, k2, k3, k4, k5, k6, k7, k8⟩ := HN7.out
  go_wp2_with fail
  refine (B2.out _).mono ?_
  rintro e w8 ⟨rfl, hb8⟩
  have HN8 := Lib.hid (HN7.out.block (hb8.block b hs7))
  have HP8 := Lib.hid (HP7.out.block (hb8.block p (by omega)))
  have HT8 := Lib.hid (HT7.out.trans (Turn.of_below (S := fun i => i = p) hb8))
  clear hb8 k0 k1 k2 k3 k4 k5 k6 k7 k8 e1 HN7 HP7 HT7 B2
  have k8 := HN8.out.2.2.2.2.2.2.2.2
  have hl2 : (l.length : Int) ≤ 256 := by omega
  go_wp2_with fail
  go_loopw [62] (fun t62 wr => ∃ i : Nat, i ≤ l.length ∧ t62 = .int .i64 i ∧ LkAt wr p (m + 1 + bn + sizeTs (l.take i)) ∧ Turn (fun i => i = p) w wr) (fun t62 _ => l.length - (intOf t62).toNat)
  case atStart => exact ⟨0, by omega, rfl, by have := HP8.out; simpa [sizeTs, Nat.add_assoc] using this, HT8.out⟩
  case round =>
    obtain ⟨i, hi, rfl, hL, hT⟩ := hrel
    have HL := Lib.hid hL
    have HTr := Lib.hid hT
    clear hL hT HP8 HT8 k8 HN8
    by_cases hlt : i < l.length
    · obtain ⟨g, cap, hv, hg, hd, bv, pv, hrep, ⟨l2, hl3⟩, h9⟩ := HR.out.nine HS.out hlt
      have hgp := HF.out g hg
      cases hv
      have hkeep : ∀ b, F b → b < w.heap.size → wr.heap[b]? = w.heap[b]? := fun b e hb => HTr.out.block b hb (HF.out b e)
      have h9' := h9.block (hkeep g hg (cell_lt h9.1))
      have HRep := Lib.hid (Rep.keep hkeep _ _ hrep)
      have HZ1 := Lib.hid (sizeTs_take hlt)
      have HZ2 := Lib.hid (sizeTs_le (l := l) (i + 1))
      have HM := Lib.hid (List.getElem_mem hlt)
      obtain ⟨k0, k1, k2, k3, k4, k5, k6, k7, k8⟩ := h9'
      obtain ⟨hk, hn', hre, him, hs', hnode, hboot, hidn, hb'⟩ := hd
      obtain ⟨ba', bn', bc', rfl⟩ : ∃ a n c, bv = .slice a n c := by
        obtain ⟨bv2, pv2, e, hb2, _⟩ := hl3 ▸ hrep
        cases e
        obtain ⟨a, c, e⟩ := row_slice hb2.1
        exact ⟨a, _, c, e⟩
      obtain ⟨pa', pn', pc', rfl⟩ : ∃ a n c, pv = .slice a n c := by
        obtain ⟨bv2, pv2, e, _, vs2, hb2, _⟩ := hl3 ▸ hrep
        cases e
        obtain ⟨a, c, e⟩ := row_slice hb2.1
        exact ⟨a, _, c, e⟩
      have hlt' : (i : Int) < (l.length : Int) := by omega
      have hi0 : (0 : Int) ≤ (i : Int) := by omega
      clear h9 hkeep hrep hl3 hg hgp HR
      go_wp2_with fail
      refine (HH.out _ HM.out _ _ _ (HL.out.block (((Below.refl _ wr).alloc (Nat.le_refl _) _).block p HL.out.lt)) (Rep.keep (fun b _ hb => ((Below.refl _ wr).alloc (Nat.le_refl _) _).block b hb) _ _ HRep.out) (by have := HZ.out; have := HZ1.out; have := HZ2.out; omega)).mono ?_
      rintro e w9 ⟨rfl, hL9, hT9⟩
      have HL9 := Lib.hid hL9
      have HT9 := Lib.hid ((HTr.out.trans (Turn.alloc _ wr _)).trans hT9)
      clear hL9 hT9
      go_wp2_with fail
      go_round
      case rel => exact ⟨i + 1, by omega, by go_num, by have h := HL9.out; rw [Nat.add_assoc, ← HZ1.out] at h; exact h, HT9.out⟩
      case measure => simp [intOf]; omega
    · obtain rfl : i = l.length := by omega
      go_wp2_with fail
      go_ret
      exact ⟨rfl, by have := HL.out; rw [List.take_length] at this; exact this, HTr.out⟩
end Go.Proofs.Ytkpeelhanmekdaa.G
