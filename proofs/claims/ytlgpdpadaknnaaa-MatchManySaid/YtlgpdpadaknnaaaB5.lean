/- match.look.part at patterns; walked, Check, Vars. -/
import Derived.Test.YtlgpdpadaknnaaaB4
namespace Go.Proofs.Ytlgpdpadaknnaaa
open Go.RowKit Go.Maps
set_option maxRecDepth 100000
attribute [local go_sem] run_store_complex run_store_func' run_store_nilFunc'

theorem checkC_atom (s : ByteArray) (h : nameB s = true) (w : World) : Calls Try.prog 15 #[.agg (lfC 3 0 s)] w (RB w (.int .i64 0)) := by
  refine check_good (leafT 3 0 s) ⟨HdOk.atom s h, by simp⟩ (by simp [leafT, sizeT, sizeTs]) (fun _ => False) _ w ?_ (fun b h => h.elim)
  exact ⟨nilV, nilV, rfl, Row.nil _ _ _ _, [], Row.nil _ _ _ _, rfl⟩
theorem checkC_list (k : Nat) (hk : k = 6 ∨ k = 7) (w : World) : Calls Try.prog 15 #[.agg (lfC k 0 ⟨#[]⟩)] w (RB w (.int .i64 0)) := by
  refine check_good (.mk { kind := k } []) ⟨HdOk.list k [] hk (by simp), by simp⟩ (by simp [sizeT, sizeTs]) (fun _ => False) _ w ?_ (fun b h => h.elim)
  exact ⟨nilV, nilV, rfl, Row.nil _ _ _ _, [], Row.nil _ _ _ _, rfl⟩
theorem part_leaf (t : Tm) (ht : LeafP t) (deep : Nat) (hd : deep ≤ 24) (F : Nat → Prop) (p m : Nat) (c : Array Value) (v : Value) (n : Nat) (l : List ByteArray) (w : World) (h : Look w p m v n l) (hr : Rep w F t c) (hn : n + 1 ≤ 4096) (h4 : l.length < 4096) :
    Calls Try.prog 20 #[.pointer (some ⟨p, 0, none⟩), .agg c, .int .i64 (deep : Int)] w (PartPost w p m v (n + 1) (stepN l t)) := by
  cases ht with
  | var s hs =>
    rw [hr.leaf]
    exact part_var s hs deep hd p m v n l w h hn h4
  | atom s hs =>
    rw [hr.leaf]
    have := part_walk 3 s none 0 [] [] deep (fun _ => False) p m v n l w (.inl rfl) (fun _ => rfl) (checkC_atom s hs) (by simp) (by simp) hd (by simp) h (by simpa using hn) (by simpa using h4) (Row.nil _ _ _ _) rfl (by simp)
    have e : stepN l (leafT 3 0 s) = l := by
      show (if (3 : Int) = 9 then addN l s else l) = l
      exact if_neg (by decide)
    rw [e]
    simpa using this
theorem part_list (k : Nat) (hk : k = 6 ∨ k = 7) (ts : List Tm) (hts : ∀ t ∈ ts, LeafP t) (hll : ts.length ≤ 256) (deep : Nat) (hd : deep ≤ 23) (F : Nat → Prop) (p m : Nat) (c : Array Value) (v : Value) (n : Nat) (l : List ByteArray) (w : World) (h : Look w p m v n l)
    (hr : Rep w F (.mk { kind := k } ts) c) (hn : n + 1 + ts.length ≤ 4096) (h4 : l.length + ts.length < 4096) (hF : ∀ b, F b → ¬ lookIn p m v b) :
    Calls Try.prog 20 #[.pointer (some ⟨p, 0, none⟩), .agg c, .int .i64 (deep : Int)] w (PartPost w p m v (n + 1 + ts.length) (ts.foldl stepN l)) := by
  obtain ⟨bv, lv, rfl, hb, vs, hl, hrs⟩ := hr
  obtain rfl : bv = nilV := hb.2.2 rfl
  obtain ⟨la, lc, rfl⟩ := row_slice hl.1
  refine part_walk k ⟨#[]⟩ la lc ts vs deep F p m v n l w (.inr hk) (fun e => by omega) (checkC_list k hk) hts (fun t ht c v n l w hL hR hn hl => ?_) (by omega) hll h hn h4 hl hrs hF
  have := part_leaf t (hts t ht) (deep + 1) (by omega) F p m c v n l w hL hR hn hl
  simpa using this
set_option maxHeartbeats 2000000 in
theorem part_under (deep : Nat) (hd : deep ≤ 24) (p m : Nat) (v : Value) (n : Nat) (l : List ByteArray) (w : World) (h : Look w p m v n l) (hn : n + 1 ≤ 4096) :
    Calls Try.prog 20 #[.pointer (some ⟨p, 0, none⟩), .agg (lfC 9 0 ⟨#[95]⟩), .int .i64 (deep : Int)] w (fun e w' => e = .returned (.int .i64 50) ∧ Turn (lookIn p m v) w w') := by
  have hcn := cx_neq
  have hw1 : IntKind.i64.wrap 1 = 1 := by decide
  have hw2 : IntKind.i64.wrap ((n : Int) + 1) = (n : Int) + 1 := wrapI (by omega) (by omega)
  have HV := Lib.hid vname_under
  have H1 := Lib.hid (h.below ((Below.refl _ w).alloc (Nat.le_refl _) (.cells (lfC 9 0 ⟨#[95]⟩) 31)))
  have HT := Lib.hid (Turn.alloc (lookIn p m v) w (.cells (lfC 9 0 ⟨#[95]⟩) 31))
  have lp := h.lt.1
  have hn1 : ((n : Int) + 1) ≤ 4096 := by omega
  have hbp : ¬ w.heap.size = p := by omega
  have HN := Lib.hid (nine_new w 9 0 0 0 ⟨#[95]⟩ 0 0 0 nilV nilV 31)
  have hs1 : w.heap.size < (w.alloc (.cells (lfC 9 0 ⟨#[95]⟩) 31)).heap.size := by simp
  clear h
  go_enter Try.func20, Try.ntmps20
  go_wp2_with fail
  generalize hbb : w.heap.size = b at *
  have HB := Lib.hid hbb
  clear hbb
  generalize w.alloc (.cells (lfC 9 0 ⟨#[95]⟩) 31) = w2 at *
  have q0 := H1.out.cells.1
  have k7 := HN.out.2.2.2.2.2.2.2.1
  go_still_tail 11, (by kernel_rfl)
  change wpList _ _ _ _ _ w2.drew
  have HN3 : Hid (NineAt w2.drew b 9 0 0 0 ⟨#[95]⟩ 0 0 0 nilV nilV) := HN.out
  have H3 : Hid (Look w2.drew p m v n l) := Lib.hid (H1.out.below ((Below.refl _ _).drew))
  have HT3 : Hid (Turn (lookIn p m v) w w2.drew) := HT.out.drew
  have hs3 : b < w2.drew.heap.size := hs1
  clear q0 k7 HN H1 HT hs1
  generalize w2.drew = w3 at *
  have r0 := H3.out.cells.1
  have rf := H3.out.cells.2.2.2.1
  have k0 := HN3.out.1
  go_upto_region 4 with fail
  have H4b : Hid (Look (w3.setCell ⟨p, 0, none⟩ (.int .i64 ((n : Int) + 1))) p m v (n + 1) l) := Lib.hid (H3.out.count (n + 1) hn)
  have HT4 := Lib.hid (HT3.out.andThen (Turn.setCell w3 p 0 (.int .i64 ((n : Int) + 1))) fun i e => .inl (.inl e))
  have HN4 := Lib.hid (HN3.out.block (Below.heap_setCell w3 ⟨p, 0, none⟩ (.int .i64 ((n : Int) + 1)) _ hbp))
  have hs4 : b < (w3.setCell ⟨p, 0, none⟩ (.int .i64 ((n : Int) + 1))).heap.size := by simp [World.setCell]; omega
  clear r0 rf k0 HT3 HN3 H3 hs3
  generalize w3.setCell ⟨p, 0, none⟩ (.int .i64 ((n : Int) + 1)) = w4 at *
  have r0 := H4b.out.cells.1
  obtain ⟨k0, k1, k2, k3, k4, k5, k6, k7, k8⟩ := HN4.out
  go_upto_region 14 with fail
  have HB5 : Below w4.heap.size w4 (w4.alloc (.cells #[.int .i64 9, .int .i64 0, .complex .f64 0 0, .string ⟨#[]⟩, .int .i64 0, .int .u32 0, .int .u64 0, nilV, nilV] 31)) := (Below.refl _ w4).alloc (Nat.le_refl _) _
  have HN5 := Lib.hid (HN4.out.block (HB5.block b hs4))
  have H5 := Lib.hid (H4b.out.below HB5)
  have HT5 := Lib.hid (HT4.out.trans (Turn.of_below (S := lookIn p m v) HB5))
  have hs5 : b < (w4.alloc (.cells #[.int .i64 9, .int .i64 0, .complex .f64 0 0, .string ⟨#[]⟩, .int .i64 0, .int .u32 0, .int .u64 0, nilV, nilV] 31)).heap.size := by simp; omega
  clear r0 k0 k1 k2 k3 k4 k5 k6 k7 k8 HT4 HN4 H4b hs4 HB5 hcn
  generalize w4.alloc (.cells #[.int .i64 9, .int .i64 0, .complex .f64 0 0, .string ⟨#[]⟩, .int .i64 0, .int .u32 0, .int .u64 0, nilV, nilV] 31) = w5 at *
  have k0 := HN5.out.1
  have k3 := HN5.out.2.2.2.1
  go_wp2_with fail
  refine (HV.out _).mono ?_
  rintro e w6 ⟨rfl, hb6⟩
  have HT6 := Lib.hid (HT5.out.trans (Turn.of_below (S := lookIn p m v) hb6))
  clear k0 k3 hb6
  go_wp2_with fail
  go_ret
  exact ⟨rfl, HT6.out⟩
/-- a pattern as the statement makes it -/
structure Pat (k : Nat) (ts : List Tm) : Prop where
  k : k = 6 ∨ k = 7
  leaf : ∀ t ∈ ts, LeafP t
  len : ts.length ≤ 256
noncomputable def namesP (ts : List Tm) : List ByteArray := ts.foldl stepN []
/-- a walk that went well -/
def WalkedPost (W : World) (ts : List Tm) (e : Ending) (w' : World) : Prop :=
  ∃ (p m : Nat) (v : Value), e = .returned (.tuple #[.pointer (some ⟨p, 0, none⟩), .int .i64 0]) ∧ Look w' p m v (1 + ts.length) (namesP ts) ∧ Below W.heap.size W w' ∧ (∀ b, lookIn p m v b → W.heap.size ≤ b)
theorem look_new (w : World) : Look ((w.alloc (.map #[] 0)).alloc (.cells #[.int .i64 0, nilV, .map (some w.heap.size)] 57)) (w.heap.size + 1) w.heap.size nilV 0 [] := by
  refine ⟨?_, ?_, World.ownsRow_nil _ _ _ _, by simp, by simp, by simp⟩
  · have := heap_new (w.alloc (.map #[] 0)) (.cells #[.int .i64 0, nilV, .map (some w.heap.size)] 57)
    simpa using this
  · exact (World.ownsMap_made w _ _ _).alloc _
theorem walked_ok (k : Nat) (ts : List Tm) (hp : Pat k ts) (F : Nat → Prop) (c : Array Value) (w : World) (hr : Rep w F (.mk { kind := k } ts) c) (hF : ∀ b, F b → b < w.heap.size) :
    Calls Try.prog 14 #[.agg c] w (WalkedPost w ts) := by
  have hmm := @run_makeMap Try.prog
  obtain ⟨bv, lv, rfl, hb, hrest⟩ := id hr
  have HH := Lib.hid (fun w2 (hb2 : Below w.heap.size w w2) (hs : w.heap.size ≤ w2.heap.size) => part_list k hp.k ts hp.leaf hp.len 1 (by omega) F (w2.heap.size + 1) w2.heap.size _ nilV 0 [] _ (look_new w2) (Rep.keep (fun b _ h => (((hb2.alloc hs _).alloc (by simp; omega) _).block b h)) _ _ hr) (by have := hp.len; omega) (by have := hp.len; simp; omega) (by rintro b hf (rfl | rfl | e) <;> first | (have := hF _ hf; omega) | cases e))
  clear hr hb hrest hF
  go_enter Try.func14, Try.ntmps14
  go_wp2_with fail
  have hc := HH.out (w.alloc (.cells (hdC { kind := (k : Int) } bv lv) 31)) ((Below.refl _ w).alloc (Nat.le_refl _) _) (by simp)
  rw [show (w.alloc (.cells (hdC { kind := (k : Int) } bv lv) 31)).heap.size = w.heap.size + 1 by simp] at hc
  refine hc.mono ?_
  rintro e w5 ⟨rfl, v5, hL5, hT5, hO5⟩
  have HL5 := Lib.hid hL5
  have HT5 := Lib.hid hT5
  have HO5 := Lib.hid hO5
  clear hc hL5 hT5 hO5 HH
  go_wp2_with fail
  go_ret2
  have hbb : Below w.heap.size w (((w.alloc (.cells (hdC { kind := (k : Int) } bv lv) 31)).alloc (.map #[] 0)).alloc (.cells #[.int .i64 0, nilV, .map (some (w.heap.size + 1))] 57)) := (((Below.refl _ w).alloc (Nat.le_refl _) _).alloc (by simp) _).alloc (by simp; omega) _
  refine ⟨_, _, v5, rfl, by have := HL5.out; rw [Nat.zero_add] at this; exact this, hbb.trans (HT5.out.below (by simp; omega) ?_), ?_⟩
  · rintro i (rfl | rfl | e)
    · omega
    · omega
    · cases e
  · rintro i (rfl | rfl | e)
    · omega
    · omega
    · rcases HO5.out with h | h
      · rw [h] at e; cases e
      · have := h _ e
        simp at this
        omega
theorem walked_under (w : World) : Calls Try.prog 14 #[.agg (lfC 9 0 ⟨#[95]⟩)] w (fun e w' => ∃ q, e = .returned (.tuple #[.pointer q, .int .i64 50]) ∧ Below w.heap.size w w') := by
  have hmm := @run_makeMap Try.prog
  have HH := Lib.hid (fun w2 => part_under 1 (by omega) (w2.heap.size + 1) w2.heap.size nilV 0 [] _ (look_new w2) (by omega))
  go_enter Try.func14, Try.ntmps14
  go_wp2_with fail
  have hc := HH.out (w.alloc (.cells (lfC 9 0 ⟨#[95]⟩) 31))
  rw [show (w.alloc (.cells (lfC 9 0 ⟨#[95]⟩) 31)).heap.size = w.heap.size + 1 by simp] at hc
  refine hc.mono ?_
  rintro e w5 ⟨rfl, hT5⟩
  have HT5 := Lib.hid hT5
  clear hc hT5 HH
  go_wp2_with fail
  go_ret2
  have hbb : Below w.heap.size w (((w.alloc (.cells (lfC 9 0 ⟨#[95]⟩) 31)).alloc (.map #[] 0)).alloc (.cells #[.int .i64 0, nilV, .map (some (w.heap.size + 1))] 57)) := (((Below.refl _ w).alloc (Nat.le_refl _) _).alloc (by simp) _).alloc (by simp; omega) _
  refine ⟨_, rfl, hbb.trans (HT5.out.below (by simp; omega) ?_)⟩
  rintro i (rfl | rfl | e)
  · omega
  · omega
  · cases e
theorem mcheck_ok (k : Nat) (ts : List Tm) (hp : Pat k ts) (F : Nat → Prop) (c : Array Value) (w : World) (hr : Rep w F (.mk { kind := k } ts) c) (hF : ∀ b, F b → b < w.heap.size) :
    Calls Try.prog 12 #[.agg c] w (RB w (.int .i64 0)) := by
  have HR := Lib.hid (Rep.keep (w' := w.alloc (.cells c 31)) (fun b _ h => ((Below.refl _ w).alloc (Nat.le_refl _) _).block b h) _ _ hr)
  have HF := Lib.hid hF
  obtain ⟨bv, lv, rfl, hb, hrest⟩ := hr
  clear hF hb hrest
  go_enter Try.func12, Try.ntmps12
  go_wp2_with fail
  refine (walked_ok k ts hp F _ _ HR.out (fun b h => by have := HF.out b h; simp; omega)).mono ?_
  rintro e w2 ⟨p, m, v, rfl, _, hb2, _⟩
  have HB := Lib.hid hb2
  clear hb2
  go_wp2_with fail
  go_ret
  exact ⟨rfl, ((Below.refl w.heap.size w).alloc (Nat.le_refl _) _).trans (HB.out.mono (by simp))⟩
theorem mcheck_under (w : World) : Calls Try.prog 12 #[.agg (lfC 9 0 ⟨#[95]⟩)] w (RB w (.int .i64 50)) := by
  go_enter Try.func12, Try.ntmps12
  go_wp2_with fail
  refine (walked_under _).mono ?_
  rintro e w2 ⟨q, rfl, hb2⟩
  have HB := Lib.hid hb2
  clear hb2
  go_wp2_with fail
  go_ret
  exact ⟨rfl, ((Below.refl w.heap.size w).alloc (Nat.le_refl _) _).trans (HB.out.mono (by simp))⟩
theorem vars_ok (k : Nat) (ts : List Tm) (hp : Pat k ts) (F : Nat → Prop) (c : Array Value) (w : World) (hr : Rep w F (.mk { kind := k } ts) c) (hF : ∀ b, F b → b < w.heap.size) :
    Calls Try.prog 13 #[.agg c] w (RE w fun v w' => w'.ownsRow 0 9 1 v (namesP ts).length ((namesP ts).map .string)) := by
  have HR := Lib.hid (Rep.keep (w' := w.alloc (.cells c 31)) (fun b _ h => ((Below.refl _ w).alloc (Nat.le_refl _) _).block b h) _ _ hr)
  have HF := Lib.hid hF
  obtain ⟨bv, lv, rfl, hb, hrest⟩ := hr
  clear hF hb hrest
  go_enter Try.func13, Try.ntmps13
  go_wp2_with fail
  refine (walked_ok k ts hp F _ _ HR.out (fun b h => by have := HF.out b h; simp; omega)).mono ?_
  rintro e w2 ⟨p, m, v, rfl, hL, hb2, _⟩
  have HB := Lib.hid hb2
  have HL := Lib.hid hL
  clear hb2 hL
  have r1 := HL.out.cells.2.1
  go_wp2_with fail
  go_ret
  exact ⟨_, rfl, HL.out.row, ((Below.refl w.heap.size w).alloc (Nat.le_refl _) _).trans (HB.out.mono (by simp))⟩
end Go.Proofs.Ytlgpdpadaknnaaa
