/- Several texts in one. -/
import Derived.Test.YtkfblapfphnggaaD08
import Derived.Recover
import Derived.Laws.Pointers
import Derived.Deep.RegionHeld3
import Derived.Test.YtkfblapfphnggaaD21
import Derived.Laws.Rows
/- etf.Decode's deferred closure. -/
namespace Go.Proofs.Ytkfblapfphnggaa
open Go.RowKit
set_option maxRecDepth 100000
attribute [local go_sem] run_store_complex

/-- a walk in the usual way serves behind the recover -/
theorem bodyS_of {P : Program} {fn : Func} {c₀ : Frame} {cs : List Frame} {u' : FrameMode} {R' : Ending → World → Prop} {R : Ending → FrameMode → World → Prop} (hR : ∀ e w', R' e w' → R e u' w') : ∀ e a w', bodyPost P fn R' e a w' → bodyPostS P fn c₀ cs R e a ({ c₀ with mode := u' } :: cs) w' := by
  intro e a w' h
  cases e with
  | normal => exact ⟨h.1, u', rfl, h.2.imp fun v hv => ⟨hv.1, hR _ _ hv.2⟩⟩
  | ret => exact ⟨h.1, u', rfl, h.2.imp fun v hv => ⟨hv.1, hR _ _ hv.2⟩⟩
  | panic ch => exact ⟨h.1, u', rfl, hR _ _ h.2⟩
  | outgrown => exact ⟨u', hR _ _ h⟩
  | exit i => exact h
  | goto l => exact h
/-- block b holds an error's number -/
def ErrAt (w : World) (b : Nat) (c : Int) : Prop := w.heap[b]? = some (.cells #[.int .i64 c] 32 (0, 0))
theorem nine_zero {w : World} {N1 N2 : Nat} {c e0 : Int} {c0 c1 c2 c3 c4 c5 c6 c7 c8 : Value} (h1 : w.heap[N1]? = some (.cells #[c0, c1, c2, c3, c4, c5, c6, c7, c8] 31 (0, 0))) (h2 : w.heap[N2]? = some (.cells #[.int .i64 e0] 32 (0, 0))) (hne : ¬ N2 = N1) (w9 : World) (hw : w9 = (((((((((w.setCell ⟨N1, 0, none⟩ (.int .i64 0)).setCell ⟨N1, 1, none⟩ (.int .i64 0)).setCell ⟨N1, 2, none⟩ (.complex .f64 0 0)).setCell ⟨N1, 3, none⟩ (.string ⟨#[]⟩)).setCell ⟨N1, 4, none⟩ (.int .i64 0)).setCell ⟨N1, 5, none⟩ (.int .u32 0)).setCell ⟨N1, 6, none⟩ (.int .u64 0)).setCell ⟨N1, 7, none⟩ (nilV)).setCell ⟨N1, 8, none⟩ (nilV)).setCell ⟨N2, 0, none⟩ (.int .i64 c)) :
    w9.heap[N1]? = some (.cells zC 31 (0, 0)) ∧ ErrAt w9 N2 c ∧ Turn (fun i => i = N1 ∨ i = N2) w w9 := by
  have a0 : (w.setCell ⟨N1, 0, none⟩ (.int .i64 0)).heap[N1]? = some (.cells #[.int .i64 0, c1, c2, c3, c4, c5, c6, c7, c8] 31 (0, 0)) := heap_setCell_at h1
  have t0 := Turn.setCell w N1 0 (.int .i64 0)
  generalize w.setCell ⟨N1, 0, none⟩ (.int .i64 0) = x0 at *
  have a1 : (x0.setCell ⟨N1, 1, none⟩ (.int .i64 0)).heap[N1]? = some (.cells #[.int .i64 0, .int .i64 0, c2, c3, c4, c5, c6, c7, c8] 31 (0, 0)) := heap_setCell_at a0
  have t1 := t0.trans (Turn.setCell x0 N1 1 (.int .i64 0))
  generalize x0.setCell ⟨N1, 1, none⟩ (.int .i64 0) = x1 at *
  have a2 : (x1.setCell ⟨N1, 2, none⟩ (.complex .f64 0 0)).heap[N1]? = some (.cells #[.int .i64 0, .int .i64 0, .complex .f64 0 0, c3, c4, c5, c6, c7, c8] 31 (0, 0)) := heap_setCell_at a1
  have t2 := t1.trans (Turn.setCell x1 N1 2 (.complex .f64 0 0))
  generalize x1.setCell ⟨N1, 2, none⟩ (.complex .f64 0 0) = x2 at *
  have a3 : (x2.setCell ⟨N1, 3, none⟩ (.string ⟨#[]⟩)).heap[N1]? = some (.cells #[.int .i64 0, .int .i64 0, .complex .f64 0 0, .string ⟨#[]⟩, c4, c5, c6, c7, c8] 31 (0, 0)) := heap_setCell_at a2
  have t3 := t2.trans (Turn.setCell x2 N1 3 (.string ⟨#[]⟩))
  generalize x2.setCell ⟨N1, 3, none⟩ (.string ⟨#[]⟩) = x3 at *
  have a4 : (x3.setCell ⟨N1, 4, none⟩ (.int .i64 0)).heap[N1]? = some (.cells #[.int .i64 0, .int .i64 0, .complex .f64 0 0, .string ⟨#[]⟩, .int .i64 0, c5, c6, c7, c8] 31 (0, 0)) := heap_setCell_at a3
  have t4 := t3.trans (Turn.setCell x3 N1 4 (.int .i64 0))
  generalize x3.setCell ⟨N1, 4, none⟩ (.int .i64 0) = x4 at *
  have a5 : (x4.setCell ⟨N1, 5, none⟩ (.int .u32 0)).heap[N1]? = some (.cells #[.int .i64 0, .int .i64 0, .complex .f64 0 0, .string ⟨#[]⟩, .int .i64 0, .int .u32 0, c6, c7, c8] 31 (0, 0)) := heap_setCell_at a4
  have t5 := t4.trans (Turn.setCell x4 N1 5 (.int .u32 0))
  generalize x4.setCell ⟨N1, 5, none⟩ (.int .u32 0) = x5 at *
  have a6 : (x5.setCell ⟨N1, 6, none⟩ (.int .u64 0)).heap[N1]? = some (.cells #[.int .i64 0, .int .i64 0, .complex .f64 0 0, .string ⟨#[]⟩, .int .i64 0, .int .u32 0, .int .u64 0, c7, c8] 31 (0, 0)) := heap_setCell_at a5
  have t6 := t5.trans (Turn.setCell x5 N1 6 (.int .u64 0))
  generalize x5.setCell ⟨N1, 6, none⟩ (.int .u64 0) = x6 at *
  have a7 : (x6.setCell ⟨N1, 7, none⟩ (nilV)).heap[N1]? = some (.cells #[.int .i64 0, .int .i64 0, .complex .f64 0 0, .string ⟨#[]⟩, .int .i64 0, .int .u32 0, .int .u64 0, nilV, c8] 31 (0, 0)) := heap_setCell_at a6
  have t7 := t6.trans (Turn.setCell x6 N1 7 (nilV))
  generalize x6.setCell ⟨N1, 7, none⟩ (nilV) = x7 at *
  have a8 : (x7.setCell ⟨N1, 8, none⟩ (nilV)).heap[N1]? = some (.cells #[.int .i64 0, .int .i64 0, .complex .f64 0 0, .string ⟨#[]⟩, .int .i64 0, .int .u32 0, .int .u64 0, nilV, nilV] 31 (0, 0)) := heap_setCell_at a7
  have t8 := t7.trans (Turn.setCell x7 N1 8 (nilV))
  generalize x7.setCell ⟨N1, 8, none⟩ (nilV) = x8 at *
  have b := (t8.block N2 (blk_lt h2) hne).trans h2
  subst hw
  exact ⟨(Below.heap_setCell x8 ⟨N2, 0, none⟩ (.int .i64 c) N1 (fun e => hne e.symm)).trans a8, heap_setCell_at b, (t8.mono fun _ _ e => .inl e).trans ((Turn.setCell x8 N2 0 _).mono fun _ _ e => .inr e)⟩
theorem assert_fault (c : Int) (w : World) : (Instr.typeAssert (.iface 45 (.agg #[.int .i64 c])) 20 45 true).run Try.prog w = .ok (.tuple #[.agg #[.int .i64 c], .bool true]) w := by kernel_rfl
set_option maxHeartbeats 2000000 in
theorem catch_panicking (N1 N2 : Nat) (c : Int) (c0 c1 c2 c3 c4 c5 c6 c7 c8 : Value) (e0 : Int) (w : World) (h1 : w.heap[N1]? = some (.cells #[c0, c1, c2, c3, c4, c5, c6, c7, c8] 31 (0, 0))) (h2 : ErrAt w N2 e0) (hne : ¬ N1 = N2) :
    CallsD Try.prog 13 #[.pointer (some ⟨N1, 0, none⟩), .pointer (some ⟨N2, 0, none⟩)] (.panicking [{ v := .iface 45 (.agg #[.int .i64 c]), recovered := false }]) w fun e u' w' =>
      e = .returned (.tuple #[]) ∧ u' = .panicking [{ v := .iface 45 (.agg #[.int .i64 c]), recovered := true }] ∧ w'.heap[N1]? = some (.cells zC 31 (0, 0)) ∧ ErrAt w' N2 c ∧ Turn (fun i => i = N1 ∨ i = N2) w w' := by
  refine callsD_of_wpS Try.func13 rfl fun c₀ fr hu => ?_
  apply wpS_seq
  apply wpS_region
  simp [wpOpsS, go_sem, recoverD, hu, Try.ntmps13, Exit.thenS]
  refine wpS_of_wp ?_
  refine wp_mono (Q := bodyPost Try.prog Try.f13 fun e w' => e = .returned (.tuple #[]) ∧ w'.heap[N1]? = some (.cells zC 31 (0, 0)) ∧ ErrAt w' N2 c ∧ Turn (fun i => i = N1 ∨ i = N2) w w') ?_ ?imp
  case imp =>
    intro e a w' h
    exact bodyS_of (fun e w' h => ⟨h.1, rfl, h.2⟩) e a w' h
  clear hu
  have hta := assert_fault c
  have ht : (#[Value.pointer (some ⟨N1, 0, none⟩), .pointer (some ⟨N2, 0, none⟩)] ++ ((Array.replicate 17 undef).setIfInBounds 3 (.iface 45 (.agg #[.int .i64 c]))).setIfInBounds 0 (.iface 45 (.agg #[.int .i64 c]))) =
      #[.pointer (some ⟨N1, 0, none⟩), .pointer (some ⟨N2, 0, none⟩), .iface 45 (.agg #[.int .i64 c]), undef, undef, .iface 45 (.agg #[.int .i64 c]), undef, undef, undef, undef, undef, undef, undef, undef, undef, undef, undef, undef, undef] := by rfl
  rw [ht]
  clear ht
  go_wp2_with fail
  have hl1 := blk_lt h1
  have hl2 := blk_lt h2
  have hF : ¬ w.heap.size = N1 := by omega
  have hF2 : ¬ w.heap.size = N2 := by omega
  have hb1 : (w.alloc (.cells #[.int .i64 c] 45)).heap[N1]? = some (.cells #[c0, c1, c2, c3, c4, c5, c6, c7, c8] 31 (0, 0)) := (Below.heap_alloc w _ N1 hl1).trans h1
  have hb2 : (w.alloc (.cells #[.int .i64 c] 45)).heap[N2]? = some (.cells #[.int .i64 e0] 32 (0, 0)) := (Below.heap_alloc w _ N2 hl2).trans h2
  have f0 : (w.alloc (.cells #[.int .i64 c] 45)).cell? ⟨w.heap.size, 0, none⟩ = some (.int .i64 c) := by simp
  have HT := Lib.hid (Turn.alloc (fun i => i = N1 ∨ i = N2) w (.cells #[.int .i64 c] 45))
  clear h1 h2 hl1 hl2 hta
  generalize w.alloc (.cells #[.int .i64 c] 45) = w1 at *
  generalize w.heap.size = F at *
  have n0 : w1.cell? ⟨N1, 0, none⟩ = some c0 := by simp [World.cell?, hb1]
  have n1 : w1.cell? ⟨N1, 1, none⟩ = some c1 := by simp [World.cell?, hb1]
  have n2 : w1.cell? ⟨N1, 2, none⟩ = some c2 := by simp [World.cell?, hb1]
  have n3 : w1.cell? ⟨N1, 3, none⟩ = some c3 := by simp [World.cell?, hb1]
  have n4 : w1.cell? ⟨N1, 4, none⟩ = some c4 := by simp [World.cell?, hb1]
  have n5 : w1.cell? ⟨N1, 5, none⟩ = some c5 := by simp [World.cell?, hb1]
  have n6 : w1.cell? ⟨N1, 6, none⟩ = some c6 := by simp [World.cell?, hb1]
  have n7 : w1.cell? ⟨N1, 7, none⟩ = some c7 := by simp [World.cell?, hb1]
  have n8 : w1.cell? ⟨N1, 8, none⟩ = some c8 := by simp [World.cell?, hb1]
  have nf := blk_fz hb1
  have m0 : w1.cell? ⟨N2, 0, none⟩ = some (.int .i64 e0) := by simp [World.cell?, hb2]
  have mf := blk_fz hb2
  have hne2 : ¬ N2 = N1 := fun e => hne e.symm
  have hF3 : ¬ N1 = F := fun e => hF e.symm
  have hF4 : ¬ N2 = F := fun e => hF2 e.symm
  have HB1 := Lib.hid hb1
  have HB2 := Lib.hid hb2
  clear hb1 hb2
  go_region_held3 (fun w' => w'.cell? ⟨F, 0, none⟩ = some (.int .i64 c)) (go_keep) (fail)
  go_end0
  have HC := nine_zero (c := c) HB1.out HB2.out hne2 _ rfl
  refine ⟨rfl, ?_⟩
  rename_i hHeld
  clear hHeld
  generalize World.setCell _ ⟨N2, 0, none⟩ (.int .i64 c) = w9 at *
  exact ⟨HC.1, HC.2.1, HT.out.trans HC.2.2.drew⟩
theorem catch_idle (N1 N2 : Nat) (w : World) :
    CallsD Try.prog 13 #[.pointer (some ⟨N1, 0, none⟩), .pointer (some ⟨N2, 0, none⟩)] .returning w fun e u' w' => e = .returned (.tuple #[]) ∧ u' = .returning ∧ w' = w := by
  refine callsD_of_wpS Try.func13 rfl fun c₀ fr hu => ?_
  apply wpS_seq
  apply wpS_region
  simp [wpOpsS, go_sem, recoverD, hu, Try.ntmps13, Exit.thenS]
  refine wpS_of_wp ?_
  refine wp_mono (Q := bodyPost Try.prog Try.f13 fun e w' => e = .returned (.tuple #[]) ∧ w' = w) ?_ ?imp
  case imp =>
    intro e a w' h
    have h2 := bodyS_of (c₀ := c₀) (cs := fr) (u' := .returning) (R := fun e u' w' => e = .returned (.tuple #[]) ∧ u' = .returning ∧ w' = w) (fun e w' h => ⟨h.1, rfl, h.2⟩) e a w' h
    cases c₀
    simp_all
  clear hu
  have ht : (#[Value.pointer (some ⟨N1, 0, none⟩), .pointer (some ⟨N2, 0, none⟩)] ++ ((Array.replicate 17 undef).setIfInBounds 3 .nilIface).setIfInBounds 0 .nilIface) =
      #[.pointer (some ⟨N1, 0, none⟩), .pointer (some ⟨N2, 0, none⟩), .nilIface, undef, undef, .nilIface, undef, undef, undef, undef, undef, undef, undef, undef, undef, undef, undef, undef, undef] := by rfl
  rw [ht]
  clear ht
  go_wp2_with fail
  exact bodyPost_ret (v := .tuple #[]) (by simp [results, Try.results13, go_sem]) rfl ⟨rfl, rfl⟩
end Go.Proofs.Ytkfblapfphnggaa
/- etf.Decode. -/
namespace Go.Proofs.Ytkfblapfphnggaa
open Go.RowKit
set_option maxRecDepth 100000
attribute [local go_sem] run_store_complex

theorem infoT9 : (Try.prog.info? 31).map (·.size) = some 9 := by kernel_rfl
/-- HOW Decode ENDS -/
def DecPost (W : World) (r : Except Int Tm) (e : Ending) (w' : World) : Prop :=
  match r with
  | .ok t => ∃ c, e = .returned (.tuple #[.agg c, .int .i64 0]) ∧ Rep w' (fun b => W.heap.size ≤ b) t c ∧ Below W.heap.size W w'
  | .error x => e = .returned (.tuple #[.agg zC, .int .i64 x]) ∧ Below W.heap.size W w'
/-- where it panics: the closure lays the error -/
theorem dec_panic {x : Int} {N1 N2 : Nat} {c0 c1 c2 c3 c4 c5 c6 c7 c8 : Value} {e0 : Int} {T : Array Value} {W w' : World} (hT2 : T[2]? = some (.pointer (some ⟨N1, 0, none⟩))) (hT3 : T[3]? = some (.pointer (some ⟨N2, 0, none⟩)))
    (h1 : w'.heap[N1]? = some (.cells #[c0, c1, c2, c3, c4, c5, c6, c7, c8] 31 (0, 0))) (h2 : ErrAt w' N2 e0) (hne : ¬ N1 = N2) (hN1 : W.heap.size ≤ N1) (hN2 : W.heap.size ≤ N2) (hb : Below W.heap.size W w') :
    bodyPostD Try.prog Try.f6 (DecPost W (.error x)) (Exit.panic (thrown x)) { tmps := T, defers := [{ target := .fn (.func 13) #[.pointer (some ⟨N1, 0, none⟩), .pointer (some ⟨N2, 0, none⟩)], args := #[] }] } w' := by
  refine leaves_cons (f := 13) (args := #[.pointer (some ⟨N1, 0, none⟩), .pointer (some ⟨N2, 0, none⟩)]) (by simp) (by simp [go_sem]) ?_
  refine (catch_panicking N1 N2 x c0 c1 c2 c3 c4 c5 c6 c7 c8 e0 w' h1 h2 hne).mono ?_
  rintro e u' w'' ⟨rfl, rfl, h1, h2, hT⟩
  have HB := Lib.hid (hb.trans (hT.below hb.size (fun i e => by omega)))
  obtain ⟨k0, k1, k2, k3, k4, k5, k6, k7, k8⟩ := NineAt.of_block h1
  have m0 : w''.cell? ⟨N2, 0, none⟩ = some (.int .i64 x) := by
    unfold ErrAt at h2
    simp [World.cell?, h2]
  clear h1 h2 hT hb
  simp only [settle]
  refine ⟨.tuple #[.agg zC, .int .i64 x], by simp [results, Try.results6, go_sem, hT2, hT3, k0, k1, k2, k3, k4, k5, k6, k7, k8, m0], rfl, HB.out⟩
set_option maxHeartbeats 2000000 in
theorem decode_any (bv : Value) (bs : List UInt8) (w : World) (h : Sl w bv (bs.map cellB)) : Calls Try.prog 6 #[bv] w (DecPost w (decodeP bs)) := by
  have HS := Lib.hid h
  obtain ⟨a, c, hbv, hm, _⟩ := h
  rw [List.length_map] at hbv hm
  subst hbv
  have hmf : ∀ (fn : Fn) (first cap : Array Value) (w : World), (Instr.makeFunc fn first cap).run Try.prog w = .ok (.func fn first cap) w := fun _ _ _ _ => rfl
  by_cases hlong : 131072 < bs.length
  · have HK := Lib.hid (show decodeP bs = .error 70 by unfold decodeP; rw [if_pos hlong])
    have hl2 : (131072 : Int) < (bs.length : Int) := by omega
    clear hlong
    go_enter_defers Try.func6, Try.ntmps6
    go_wp2_with fail
    refine ⟨.tuple #[.agg zC, .int .i64 70], by simp [results, Try.results6, go_sem], ?_⟩
    rw [HK.out]
    exact ⟨rfl, ((Below.refl w.heap.size w).alloc (Nat.le_refl _) _).alloc (by simp) _⟩
  · have hl2 : (bs.length : Int) ≤ (131072 : Int) := by omega
    go_enter_defers Try.func6, Try.ntmps6
    go_wp2_with fail
    have HB0 := Lib.hid (((Below.refl w.heap.size w).alloc (Nat.le_refl _) (.cells #[.int .i64 0, .int .i64 0, .complex .f64 0 0, .string ⟨#[]⟩, .int .i64 0, .int .u32 0, .int .u64 0, nilV, nilV] 31)).alloc (by simp) (.cells #[.int .i64 0] 32))
    have h10 : Hid (((w.alloc (.cells #[.int .i64 0, .int .i64 0, .complex .f64 0 0, .string ⟨#[]⟩, .int .i64 0, .int .u32 0, .int .u64 0, nilV, nilV] 31)).alloc (.cells #[.int .i64 0] 32)).heap[w.heap.size]? = some (.cells #[.int .i64 0, .int .i64 0, .complex .f64 0 0, .string ⟨#[]⟩, .int .i64 0, .int .u32 0, .int .u64 0, nilV, nilV] 31 (0, 0))) := (Below.heap_alloc _ _ _ (by simp)).trans (heap_new w _)
    have h20 : Hid (((w.alloc (.cells #[.int .i64 0, .int .i64 0, .complex .f64 0 0, .string ⟨#[]⟩, .int .i64 0, .int .u32 0, .int .u64 0, nilV, nilV] 31)).alloc (.cells #[.int .i64 0] 32)).heap[w.heap.size + 1]? = some (.cells #[.int .i64 0] 32 (0, 0))) := by
      have := heap_new (w.alloc (.cells #[.int .i64 0, .int .i64 0, .complex .f64 0 0, .string ⟨#[]⟩, .int .i64 0, .int .u32 0, .int .u64 0, nilV, nilV] 31)) (.cells #[.int .i64 0] 32)
      rw [show (w.alloc (.cells #[.int .i64 0, .int .i64 0, .complex .f64 0 0, .string ⟨#[]⟩, .int .i64 0, .int .u32 0, .int .u64 0, nilV, nilV] 31)).heap.size = w.heap.size + 1 by simp] at this
      exact this
    generalize ((w.alloc (.cells #[.int .i64 0, .int .i64 0, .complex .f64 0 0, .string ⟨#[]⟩, .int .i64 0, .int .u32 0, .int .u64 0, nilV, nilV] 31)).alloc (.cells #[.int .i64 0] 32)) = w0 at *
    refine (new_any _).mono ?_
    rintro e w1 ⟨rfl, ht1, hb1⟩
    have HS1 := Lib.hid (HS.out.same' (W' := w1) fun b _ _ hb => (hb1.block b (by have := HB0.out.size; omega)).trans (HB0.out.block b hb))
    go_wp2_with fail
    have hB0s := HB0.out.size
    have hb1s := hb1.size
    have hNs : w.heap.size + 1 < w0.heap.size := blk_lt h20.out
    have HBA := Lib.hid ((HB0.out.trans (hb1.mono hB0s)).alloc (by omega) (.cells #[.slice a bs.length c, .int .i64 0, .int .i64 0, .pointer (some ⟨w0.heap.size + 1, 0, none⟩)] 51))
    have hq := (Below.refl w1.heap.size w1).alloc (Nat.le_refl _) (.cells #[.slice a bs.length c, .int .i64 0, .int .i64 0, .pointer (some ⟨w0.heap.size + 1, 0, none⟩)] 51)
    have ht1l := ht1.lt
    have HRd : Hid (RdAt (w1.alloc (.cells #[.slice a bs.length c, .int .i64 0, .int .i64 0, .pointer (some ⟨w0.heap.size + 1, 0, none⟩)] 51)) w1.heap.size (w0.heap.size + 1) w0.heap.size nilV (.slice a bs.length c) bs ⟨0, 0, []⟩) := by
      refine ⟨heap_new w1 _, ht1.below hq, HS1.out.below hq, by omega, Nat.zero_le _, Nat.zero_le _, ?_, ?_⟩
      · rintro (e | e | e)
        · omega
        · omega
        · cases e
      · intro b e hp
        have hbl : b < w.heap.size := by
          obtain ⟨a2, c2, e2, _, hc2⟩ := HS.out
          obtain ⟨b2, off, e3, hcell⟩ := hc2 (by simpa using hp)
          have e5 : a = a2 := by injection e2
          rw [e5, e3] at e
          cases e
          exact cell_lt (hcell 0 (by simpa using hp))
        rintro (e | e | e | e)
        · omega
        · omega
        · omega
        · cases e
    have H12 := Lib.hid ((hq.block w.heap.size (by omega)).trans ((hb1.block w.heap.size (by omega)).trans h10.out))
    have H22 := Lib.hid ((hq.block (w.heap.size + 1) (by omega)).trans ((hb1.block (w.heap.size + 1) (by omega)).trans h20.out))
    have hRN : w.heap.size + 1 < w1.heap.size := by omega
    have hpN : w.heap.size + 1 < w0.heap.size := hNs
    have hpp : w.heap.size + 1 < w0.heap.size + 1 := by omega
    clear h10 h20 hb1 ht1 hq HS1 HB0 hB0s hb1s ht1l hNs
    generalize w1.alloc (.cells #[.slice a bs.length c, .int .i64 0, .int .i64 0, .pointer (some ⟨w0.heap.size + 1, 0, none⟩)] 51) = w2 at *
    generalize w1.heap.size = R at *
    generalize w0.heap.size + 1 = p at *
    have HO := one_any R p w0.heap.size nilV (.slice a bs.length c) bs ⟨0, 0, []⟩ w2 HRd.out
    generalize w0.heap.size = m at *
    have hne : ¬ w.heap.size = w.heap.size + 1 := by omega
    cases ho : oneP bs ⟨0, 0, []⟩ with
    | error x =>
      have HK := Lib.hid (show decodeP bs = .error x by unfold decodeP; rw [if_neg hlong, ho])
      rw [ho] at HO
      have HO := Lib.hid HO
      clear ho
      refine HO.out.mono ?_
      rintro e w3 ⟨rfl, hT3⟩
      go_wp2_with fail
      rw [HK.out]
      refine dec_panic rfl rfl ((hT3.block _ (blk_lt H12.out) (by omega)).trans H12.out) ((hT3.block _ (blk_lt H22.out) (by omega)).trans H22.out) hne (Nat.le_refl _) (by omega) (HBA.out.trans (hT3.below HBA.out.size (fun i e => by omega)))
    | ok y =>
      obtain ⟨k, s1⟩ := y
      obtain ⟨o1, o2, _⟩ := oneP_ok ho
      have HU := Lib.hid ho
      rw [ho] at HO
      have HO := Lib.hid HO
      clear ho
      refine HO.out.mono ?_
      rintro e w3 ⟨rfl, hR3, hT3⟩
      have HR3 := Lib.hid hR3
      have HB3 := Lib.hid (HBA.out.trans (hT3.below HBA.out.size (fun i e => by omega)))
      have H13 := Lib.hid ((hT3.block _ (blk_lt H12.out) (by omega)).trans H12.out)
      have H23 := Lib.hid ((hT3.block _ (blk_lt H22.out) (by omega)).trans H22.out)
      clear hR3 hT3 HBA H12 H22 HO HRd
      by_cases hk : k = 69
      · subst hk
        go_wp2_with fail
        have HP := rpart_any R p m (.slice a bs.length c) bs 24 (Nat.le_refl _) 1 rfl nilV s1 w3 HR3.out (by rw [o2]; exact Nat.zero_le _)
        have hf1 : ¬ foot R p m nilV w.heap.size := by
          rintro (e | e | e | e)
          · omega
          · omega
          · omega
          · cases e
        have hf2 : ¬ foot R p m nilV (w.heap.size + 1) := by
          rintro (e | e | e | e)
          · omega
          · omega
          · omega
          · cases e
        have hff : ∀ i, foot R p m nilV i → w.heap.size ≤ i := by
          rintro i (e | e | e | e)
          · omega
          · omega
          · omega
          · cases e
        cases hp : partP bs 24 s1 with
        | error x =>
          have HK := Lib.hid (show decodeP bs = .error x by unfold decodeP; rw [if_neg hlong, HU.out]; simp [hp])
          rw [hp] at HP
          have HP := Lib.hid HP
          clear hp
          refine HP.out.mono ?_
          rintro e w4 ⟨rfl, hT4⟩
          go_wp2_with fail
          rw [HK.out]
          refine dec_panic rfl rfl ((hT4.block _ (blk_lt H13.out) hf1).trans H13.out) ((hT4.block _ (blk_lt H23.out) hf2).trans H23.out) hne (Nat.le_refl _) (by omega) (HB3.out.trans (hT4.below HB3.out.size hff))
        | ok y =>
          obtain ⟨t, s2⟩ := y
          have HK := Lib.hid (show decodeP bs = if s2.i < bs.length then .error 74 else .ok t by unfold decodeP; rw [if_neg hlong, HU.out]; simp [hp])
          rw [hp] at HP
          have HP := Lib.hid HP
          clear hp
          refine HP.out.mono ?_
          rintro e w4 ⟨v', cs, rfl, hR4, hT4, hv4, hrep⟩
          obtain ⟨q0, q1, q2, q3, q4, q5, q6, q7, q8, q9, q10, q11, q12, q13, rfl, _⟩ := rep_nine hrep
          have H14 := Lib.hid ((hT4.block _ (blk_lt H13.out) hf1).trans H13.out)
          have H24 := Lib.hid ((hT4.block _ (blk_lt H23.out) hf2).trans H23.out)
          have HB4 := Lib.hid (HB3.out.trans (hT4.below HB3.out.size hff))
          have hN3 := blk_lt H23.out
          have HRep := Lib.hid (Rep.mono (F' := fun b => w.heap.size + 1 < b) (fun b e _ => by have := e.1; omega) _ _ hrep)
          have hRne : ¬ R = w.heap.size := by omega
          have h2ne : ¬ w.heap.size + 1 = w.heap.size := by omega
          have r1 : (w4.setRow w.heap.size #[.int .i64 q0, .int .i64 q1, .complex .f64 q2 q3, .string q4, .int .i64 q5, .int .u32 q6, .int .u64 q7, .slice q8 q9 q10, .slice q11 q12 q13]).cell? ⟨R, 1, none⟩ = some (.int .i64 s2.i) := (World.cell?_of_block (setRow_other w4 _ R _ hRne)).trans hR4.c1
          have hile := hR4.ile
          have H15 := Lib.hid (setRow_heap w4 w.heap.size #[.int .i64 0, .int .i64 0, .complex .f64 0 0, .string ⟨#[]⟩, .int .i64 0, .int .u32 0, .int .u64 0, nilV, nilV] #[.int .i64 q0, .int .i64 q1, .complex .f64 q2 q3, .string q4, .int .i64 q5, .int .u32 q6, .int .u64 q7, .slice q8 q9 q10, .slice q11 q12 q13] 31 (0, 0) H14.out)
          have H25 := Lib.hid ((setRow_other w4 w.heap.size (w.heap.size + 1) #[.int .i64 q0, .int .i64 q1, .complex .f64 q2 q3, .string q4, .int .i64 q5, .int .u32 q6, .int .u64 q7, .slice q8 q9 q10, .slice q11 q12 q13] h2ne).trans H24.out)
          have HB5 := Lib.hid (HB4.out.trans ((setRow_turn w4 w.heap.size #[.int .i64 q0, .int .i64 q1, .complex .f64 q2 q3, .string q4, .int .i64 q5, .int .u32 q6, .int .u64 q7, .slice q8 q9 q10, .slice q11 q12 q13]).below HB4.out.size (fun i e => by omega)))
          have HRep5 := Lib.hid (Rep.keep (w' := w4.setRow w.heap.size #[.int .i64 q0, .int .i64 q1, .complex .f64 q2 q3, .string q4, .int .i64 q5, .int .u32 q6, .int .u64 q7, .slice q8 q9 q10, .slice q11 q12 q13]) (fun b e _ => setRow_other w4 _ _ _ (by omega)) _ _ HRep.out)
          clear hR4 hT4 hv4 hrep HR3 HP
          have hlt : (s2.i < bs.length ∧ (s2.i : Int) < (bs.length : Int)) ∨ (¬ s2.i < bs.length ∧ decide ((s2.i : Int) < (bs.length : Int)) = false ∧ decide (s2.i < bs.length) = false) := by
            by_cases hi : s2.i < bs.length
            · exact .inl ⟨hi, by omega⟩
            · exact .inr ⟨hi, decide_eq_false (by omega), decide_eq_false hi⟩
          rcases hlt with ⟨hi, hi1⟩ | ⟨hi, hi1, hi2⟩
          · have HK2 := Lib.hid (show decodeP bs = .error 74 by rw [HK.out, if_pos hi])
            go_wp2_with (refine wpList_store_row rfl 31 (.tmp 2) (.tmp 20) rfl w.heap.size #[.int .i64 q0, .int .i64 q1, .complex .f64 q2 q3, .string q4, .int .i64 q5, .int .u32 q6, .int .u64 q7, .slice q8 q9 q10, .slice q11 q12 q13] rfl rfl 31 #[.int .i64 0, .int .i64 0, .complex .f64 0 0, .string ⟨#[]⟩, .int .i64 0, .int .u32 0, .int .u64 0, nilV, nilV] H14.out infoT9 rfl (by simp [Array.all, Value.oneCell']) ?_)
            refine (fail_any _ 74 _).mono ?_
            rintro e w5 ⟨rfl, rfl⟩
            go_wp2_with fail
            rw [HK2.out]
            exact dec_panic rfl rfl H15.out H25.out hne (Nat.le_refl _) (by omega) HB5.out
          · have HK2 := Lib.hid (show decodeP bs = .ok t by rw [HK.out, if_neg hi])
            go_upto_region 8 with (refine wpList_store_row rfl 31 (.tmp 2) (.tmp 20) rfl w.heap.size #[.int .i64 q0, .int .i64 q1, .complex .f64 q2 q3, .string q4, .int .i64 q5, .int .u32 q6, .int .u64 q7, .slice q8 q9 q10, .slice q11 q12 q13] rfl rfl 31 #[.int .i64 0, .int .i64 0, .complex .f64 0 0, .string ⟨#[]⟩, .int .i64 0, .int .u32 0, .int .u64 0, nilV, nilV] H14.out infoT9 rfl (by simp [Array.all, Value.oneCell']) ?_)
            clear H14 H24 HB4 HRep
            generalize w4.setRow w.heap.size #[.int .i64 q0, .int .i64 q1, .complex .f64 q2 q3, .string q4, .int .i64 q5, .int .u32 q6, .int .u64 q7, .slice q8 q9 q10, .slice q11 q12 q13] = w5 at *
            obtain ⟨k0, k1, k2, k3, k4, k5, k6, k7, k8⟩ := NineAt.of_block H15.out
            have H16 := Lib.hid (setRow_heap w5 w.heap.size #[.int .i64 q0, .int .i64 q1, .complex .f64 q2 q3, .string q4, .int .i64 q5, .int .u32 q6, .int .u64 q7, .slice q8 q9 q10, .slice q11 q12 q13] #[.int .i64 q0, .int .i64 q1, .complex .f64 q2 q3, .string q4, .int .i64 q5, .int .u32 q6, .int .u64 q7, .slice q8 q9 q10, .slice q11 q12 q13] 31 (0, 0) H15.out)
            have H26 := Lib.hid ((setRow_other w5 w.heap.size (w.heap.size + 1) #[.int .i64 q0, .int .i64 q1, .complex .f64 q2 q3, .string q4, .int .i64 q5, .int .u32 q6, .int .u64 q7, .slice q8 q9 q10, .slice q11 q12 q13] h2ne).trans H25.out)
            have HB6 := Lib.hid (HB5.out.trans ((setRow_turn w5 w.heap.size #[.int .i64 q0, .int .i64 q1, .complex .f64 q2 q3, .string q4, .int .i64 q5, .int .u32 q6, .int .u64 q7, .slice q8 q9 q10, .slice q11 q12 q13]).below HB5.out.size (fun i e => by omega)))
            have HRep6 := Lib.hid (Rep.keep (w' := w5.setRow w.heap.size #[.int .i64 q0, .int .i64 q1, .complex .f64 q2 q3, .string q4, .int .i64 q5, .int .u32 q6, .int .u64 q7, .slice q8 q9 q10, .slice q11 q12 q13]) (fun b e _ => setRow_other w5 _ _ _ (by omega)) _ _ HRep5.out)
            have m0 : (w5.setRow w.heap.size #[.int .i64 q0, .int .i64 q1, .complex .f64 q2 q3, .string q4, .int .i64 q5, .int .u32 q6, .int .u64 q7, .slice q8 q9 q10, .slice q11 q12 q13]).cell? ⟨w.heap.size + 1, 0, none⟩ = some (.int .i64 0) := by
              have h := H26.out
              simp [World.cell?, h]
            have mf := blk_fz H26.out 0
            go_wp2_with (refine wpList_store_row rfl 31 (.tmp 2) (.tmp 30) rfl w.heap.size #[.int .i64 q0, .int .i64 q1, .complex .f64 q2 q3, .string q4, .int .i64 q5, .int .u32 q6, .int .u64 q7, .slice q8 q9 q10, .slice q11 q12 q13] rfl rfl 31 #[.int .i64 q0, .int .i64 q1, .complex .f64 q2 q3, .string q4, .int .i64 q5, .int .u32 q6, .int .u64 q7, .slice q8 q9 q10, .slice q11 q12 q13] H15.out infoT9 rfl (by simp [Array.all, Value.oneCell']) ?_)
            have HE : Hid (DecPost w (.ok t) (.returned (.tuple #[.agg #[.int .i64 q0, .int .i64 q1, .complex .f64 q2 q3, .string q4, .int .i64 q5, .int .u32 q6, .int .u64 q7, .slice q8 q9 q10, .slice q11 q12 q13], .int .i64 0])) ((w5.setRow w.heap.size #[.int .i64 q0, .int .i64 q1, .complex .f64 q2 q3, .string q4, .int .i64 q5, .int .u32 q6, .int .u64 q7, .slice q8 q9 q10, .slice q11 q12 q13]).setCell ⟨w.heap.size + 1, 0, none⟩ (.int .i64 0))) :=
              ⟨_, rfl, Rep.mono (fun b e _ => by omega) _ _ (Rep.keep (fun b e _ => Below.heap_setCell _ _ _ _ (by show ¬ b = w.heap.size + 1; omega)) _ _ HRep6.out), HB6.out.setCell (by simp) _⟩
            have H17 := Lib.hid ((Below.heap_setCell (w5.setRow w.heap.size #[.int .i64 q0, .int .i64 q1, .complex .f64 q2 q3, .string q4, .int .i64 q5, .int .u32 q6, .int .u64 q7, .slice q8 q9 q10, .slice q11 q12 q13]) ⟨w.heap.size + 1, 0, none⟩ (.int .i64 0) _ (fun e => h2ne e.symm)).trans H16.out)
            have H27 : Hid (((w5.setRow w.heap.size #[.int .i64 q0, .int .i64 q1, .complex .f64 q2 q3, .string q4, .int .i64 q5, .int .u32 q6, .int .u64 q7, .slice q8 q9 q10, .slice q11 q12 q13]).setCell ⟨w.heap.size + 1, 0, none⟩ (.int .i64 0)).heap[w.heap.size + 1]? = some (.cells #[.int .i64 0] 32 (0, 0))) := heap_setCell_at H26.out
            clear k0 k1 k2 k3 k4 k5 k6 k7 k8 m0 mf
            generalize (w5.setRow w.heap.size #[.int .i64 q0, .int .i64 q1, .complex .f64 q2 q3, .string q4, .int .i64 q5, .int .u32 q6, .int .u64 q7, .slice q8 q9 q10, .slice q11 q12 q13]).setCell ⟨w.heap.size + 1, 0, none⟩ (.int .i64 0) = w6 at *
            refine leaves_cons (f := 13) (args := #[.pointer (some ⟨w.heap.size, 0, none⟩), .pointer (some ⟨w.heap.size + 1, 0, none⟩)]) (by simp) (by simp [go_sem]) ?_
            refine (catch_idle _ _ _).mono ?_
            rintro e u' w'' ⟨rfl, rfl, rfl⟩
            obtain ⟨k0, k1, k2, k3, k4, k5, k6, k7, k8⟩ := NineAt.of_block H17.out
            have m0 : w''.cell? ⟨w.heap.size + 1, 0, none⟩ = some (.int .i64 0) := by
              have h := H27.out
              simp [World.cell?, h]
            simp only [settle]
            refine ⟨.tuple #[.agg #[.int .i64 q0, .int .i64 q1, .complex .f64 q2 q3, .string q4, .int .i64 q5, .int .u32 q6, .int .u64 q7, .slice q8 q9 q10, .slice q11 q12 q13], .int .i64 0], by simp [results, Try.results6, go_sem, k0, k1, k2, k3, k4, k5, k6, k7, k8, m0], ?_⟩
            rw [HK2.out]
            exact HE.out
      · have HK := Lib.hid (show decodeP bs = .error 71 by unfold decodeP; rw [if_neg hlong, HU.out]; simp [hk])
        have hk2 : ((k : Int) == 69) = false := by rw [beq_eq_false_iff_ne]; omega
        have hk3 : ((k : Int) != 69) = true := by rw [bne_iff_ne]; omega
        go_wp2_with fail
        refine (fail_any _ 71 _).mono ?_
        rintro e w4 ⟨rfl, rfl⟩
        go_wp2_with fail
        rw [HK.out]
        exact dec_panic rfl rfl H13.out H23.out hne (Nat.le_refl _) (by omega) HB3.out
end Go.Proofs.Ytkfblapfphnggaa
