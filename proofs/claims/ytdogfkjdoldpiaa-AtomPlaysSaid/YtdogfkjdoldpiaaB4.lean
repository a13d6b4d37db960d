/- all: does a table tell just these names, left early and begun again? -/
import Derived.Test.YtdogfkjdoldpiaaB2
namespace Go.Proofs.Ytdogfkjdoldpiaa
open Go.RowKit Go.Maps Go.Shelf
attribute [local go_sem] Oper.semAt_some

/-- what holds between two rounds: the result's and the counter's boxes; what has come begins the table's names -/
def allPi (r b : Nat) (l : List ByteArray) (pre : List (Nat × ByteArray)) (W : World) : Prop := Boxed W r 4 (.bool false) ∧ Boxed W b 3 (.int .i64 pre.length) ∧ pre <+: its l
/-- a round has left: by 'return', which no right name brings about; by 'break', in the first turn alone -/
def allPx (first : Bool) (r b : Nat) (l : List ByteArray) (c : Code) (pre : List (Nat × ByteArray)) (W : World) : Prop :=
  (c = .ret ∧ ¬ pre <+: its l) ∨ (first = true ∧ c = .exit 2 ∧ Boxed W r 4 (.bool false) ∧ Boxed W b 3 (.int .i64 pre.length))
theorem prefix_next {l : List ByteArray} {pre : List (Nat × ByteArray)} (h : pre <+: its l) (hl : pre.length < l.length) (x : Nat × ByteArray) : (pre ++ [x] <+: its l) ↔ x = (pre.length, l[pre.length]) := by
  have he : pre = (its l).take pre.length := List.prefix_iff_eq_take.1 h
  have ht := its_take l pre.length hl
  rw [← he] at ht
  constructor
  · intro hx
    have h2 := List.prefix_iff_eq_take.1 hx
    rw [List.length_append, List.length_cons, List.length_nil, Nat.zero_add, ht] at h2
    have := List.append_cancel_left h2
    simpa using this
  · intro hx
    rw [hx, ← ht]
    exact List.take_prefix _ _
theorem allPi_old {B r b : Nat} (hr : r < B) (hb : b < B) (l : List ByteArray) : OldOnly B (allPi r b l) := OldOnly.and (OldOnly.boxed hr _ (fun _ => .bool false)) (OldOnly.and (OldOnly.boxed hb _ _) (OldOnly.pure _ _))
theorem allPx_old {B r b : Nat} (hr : r < B) (hb : b < B) (first : Bool) (l : List ByteArray) (c : Code) : OldOnly B (allPx first r b l c) := fun s X Y h h1 h2 => by
  rcases h with h | ⟨hf, hc, h, h'⟩
  · exact .inl h
  · exact .inr ⟨hf, hc, OldOnly.boxed hr _ (fun _ : List (Nat × ByteArray) => .bool false) s X Y h h1 h2, OldOnly.boxed hb _ (fun pre : List (Nat × ByteArray) => .int .i64 pre.length) s X Y h' h1 h2⟩
theorem wpIn_cut {F : Fence} {n : Nat} {P : Program} {c : Code} {a : Act} {w : World} {Q : Exit → Act → World → Prop} (R : Act → Exit → Act → World → Prop) (h : c.wpIn F n P (R a) a w) (hm : ∀ e a' W, R a e a' W → Q e a' W) : c.wpIn F n P Q a w := wpIn_mono h hm
theorem both {Q : Exit → Act → World → Prop} {e : Exit} {a : Act} {w : World} (he : e = .normal ∨ e = .exit 2) (h2 : Q (.exit 2) a w = Q .normal a w) (h : Q .normal a w) : Q e a w := by
  rcases he with rfl | rfl
  · exact h
  · rw [h2]; exact h
/-- how the names' round ends: by itself, or by the break -/
def rangeEnd (w : World) (T : Nat → Prop) (last : Bool) (r b : Nat) (l : List ByteArray) (a : Act) (e : Exit) (a' : Act) (W : World) : Prop :=
  (e = .normal ∨ e = .exit 2) ∧ ∃ D, w.heap.size ≤ D ∧ a' = { a with defers := { target := .collected D, args := #[] } :: a.defers } ∧ Turn T w W ∧ W.heap[D]? = some (.deferred (some [])) ∧ Boxed W r 4 (.bool false) ∧ ∃ n : Nat, Boxed W b 3 (.int .i64 n) ∧ (last = true → e = .normal ∧ n = l.length)
theorem leave_box2 {fn : Func} {t : Tmp} (h : fn.results = #[.cell t 4]) {tmps : Array Value} {r D D' n : Nat} (ht : tmps.getD t undef = .pointer (some ⟨r, 0, none⟩)) {w W : World} {b : Bool} (hb : Boxed W r 4 (.bool b))
    (hne : D ≠ D') (hD : W.heap[D]? = some (.deferred (some []))) (hD' : W.heap[D']? = some (.deferred (some []))) (hB : Below w.heap.size w W) (hwD : w.heap.size ≤ D) (hwD' : w.heap.size ≤ D') :
    LeavesInM Fence.wide n Try.prog fn tmps (RB w (.bool b)) [{ target := .collected D, args := #[] }, { target := .collected D', args := #[] }] .returning W := by
  have hne1 : r ≠ D := fun e => by subst e; rw [show W.heap[r]? = _ from hb] at hD; cases hD
  have hb' : Boxed (W.putObj D (.deferred none)) r 4 (.bool b) := (World.putObj_heap_other hne1).trans hb
  have hk : (W.putObj D (.deferred none)).heap[D']? = some (.deferred (some [])) := (World.putObj_heap_other (Ne.symm hne)).trans hD'
  exact ⟨by simp, .inl ⟨_, _, rfl, run_takeDeferred hD, leave_box h ht hb' hk (below_taken hB hwD _) hwD'⟩⟩
theorem next_post {r b : Nat} {l : List ByteArray} {pre : List (Nat × ByteArray)} {x : Nat × ByteArray} {W : World} (hne : r ≠ b) (hr : Boxed W r 4 (.bool false)) (hb : Boxed W b 3 (.int .i64 pre.length)) (hx : pre ++ [x] <+: its l) :
    allPi r b l (pre ++ [x]) (W.setCell ⟨b, 0, none⟩ (.int .i64 (pre.length + 1))) :=
  ⟨hr.other hne _, by have := hb.set (.int .i64 (pre.length + 1)); simpa using this, hx⟩
set_option maxRecDepth 100000 in
set_option maxHeartbeats 4000000 in
theorem all_walk (p m : Nat) (v lv : Value) (l : List ByteArray) (stop : Int) (w : World) (hT : Tab w p m v l) (hS : Strs w lv l) (hn : (Lit.int .i64 stop).wf = true) :
    Calls Try.prog 17 #[.pointer (some ⟨p, 0, none⟩), lv, .int .i64 stop] w (RB w (.bool true)) := by
  have hq := eqlSeqNil
  refine (callsIn_wide (n := 5)).1 ?_
  refine callsIn_of_wp_marks Try.func17 rfl trivial ?_ rfl
  simp only [Try.ntmps17, List.size_toArray, List.length_cons, List.length_nil, Nat.reduceAdd, Nat.reduceSub, Array.replicate_succ, Array.replicate_zero, List.push_toArray, List.append_toArray, List.nil_append, List.cons_append]
  have HT := Lib.hid hT
  obtain ⟨la, lc, hlv, hlm, hcell⟩ := hS
  subst hlv
  have HC := Lib.hid hcell
  clear hT hcell
  gi_wp2_with fail
  have hb0 : Below w.heap.size w (((w.alloc (.cells #[.slice la l.length lc] 24)).alloc (.cells #[.int .i64 stop] 3)).alloc (.cells #[.bool false] 4)) :=
    (((Below.refl _ w).alloc (Nat.le_refl _) _).alloc (by simp) _).alloc (by simp; omega) _
  refine ⟨trivial, (callsIn_wide.2 (all_any p m v l _ (HT.out.below hb0))).mono ?_⟩
  rintro e w1 ⟨v1, rfl, hT1, hb1, hv1⟩
  have s1 := hb1.size
  simp at s1
  have hB1 : Below w.heap.size w w1 := hb0.trans (hb1.mono (by simp; omega))
  have hr1 : Boxed w1 (w.heap.size + 1 + 1) 4 (.bool false) := (hb1.block _ (by simp)).trans (by have := Boxed.new ((w.alloc (.cells #[.slice la l.length lc] 24)).alloc (.cells #[.int .i64 stop] 3)) 4 (.bool false); simpa [Boxed] using this)
  have hlv1 : Boxed w1 w.heap.size 24 (.slice la l.length lc) := (hb1.block _ (by simp; omega)).trans (((Boxed.new w 24 (.slice la l.length lc)).alloc _).alloc _)
  have hst1 : Boxed w1 (w.heap.size + 1) 3 (.int .i64 stop) := (hb1.block _ (by simp)).trans (by have := (Boxed.new (w.alloc (.cells #[.slice la l.length lc] 24)) 3 (.int .i64 stop)).alloc (.cells #[.bool false] 4); simpa [Boxed] using this)
  simp at hT1 hv1
  have HB1 := Lib.hid hB1
  have HT1 := Lib.hid hT1
  have HV1 := Lib.hid hv1
  clear hb0 hb1 hB1 hT1 hv1
  gi_wp2_with fail
  refine wpIn_loop_rounds 3 ?_
  rw [roundsIn_succ]
  gi_wp2_with fail
  have s0 := s1
  have HR0 := Lib.hid hr1
  have HS0 := Lib.hid hst1
  have HL0 := Lib.hid hlv1
  have HB0 := HB1
  have HTt0 := HT1
  clear hr1 hst1 hlv1 HB1 HT1 s1
  have hsz0 : ((w1.alloc (.cells #[.int .i64 0] 3)).alloc (.cells #[.int .i64 0] 3)).heap.size = w1.heap.size + 2 := by simp
  have hB20 : Below w.heap.size w ((w1.alloc (.cells #[.int .i64 0] 3)).alloc (.cells #[.int .i64 0] 3)) := (HB0.out.alloc HB0.out.size _).alloc (by have := HB0.out.size; simp; omega) _
  have ht20 : Boxed ((w1.alloc (.cells #[.int .i64 0] 3)).alloc (.cells #[.int .i64 0] 3)) (w1.heap.size) 3 (.int .i64 0) := (Boxed.new w1 _ _).alloc _
  have hn20 : Boxed ((w1.alloc (.cells #[.int .i64 0] 3)).alloc (.cells #[.int .i64 0] 3)) (w1.heap.size + 1) 3 (.int .i64 0) := by
    have := Boxed.new (w1.alloc (.cells #[.int .i64 0] 3)) 3 (.int .i64 0)
    simpa [Boxed] using this
  have hr20 : Boxed ((w1.alloc (.cells #[.int .i64 0] 3)).alloc (.cells #[.int .i64 0] 3)) (w.heap.size + 1 + 1) 4 (.bool false) := ((HR0.out.alloc (.cells #[.int .i64 0] 3)).alloc (.cells #[.int .i64 0] 3))
  have hl20 : Boxed ((w1.alloc (.cells #[.int .i64 0] 3)).alloc (.cells #[.int .i64 0] 3)) w.heap.size 24 (.slice la l.length lc) := ((HL0.out.alloc (.cells #[.int .i64 0] 3)).alloc (.cells #[.int .i64 0] 3))
  have hs20 : Boxed ((w1.alloc (.cells #[.int .i64 0] 3)).alloc (.cells #[.int .i64 0] 3)) (w.heap.size + 1) 3 (.int .i64 stop) := ((HS0.out.alloc (.cells #[.int .i64 0] 3)).alloc (.cells #[.int .i64 0] 3))
  have hT20 : Told ((w1.alloc (.cells #[.int .i64 0] 3)).alloc (.cells #[.int .i64 0] 3)) (w.heap.size + 1 + 1 + 1) v1 l := HTt0.out.keep (.of_below (((Below.refl _ w1).alloc (Nat.le_refl _) _).alloc (by simp) _))
  have hvl0 := HTt0.out.vlt
  refine wpIn_cut (fun a e a' Y => rangeEnd ((w1.alloc (.cells #[.int .i64 0] 3)).alloc (.cells #[.int .i64 0] 3)) (fun i => i = w.heap.size + 1 + 1 ∨ i = w1.heap.size + 1) false (w.heap.size + 1 + 1) (w1.heap.size + 1) l a e a' Y) ?_ ?_
  · generalize ((w1.alloc (.cells #[.int .i64 0] 3)).alloc (.cells #[.int .i64 0] 3)) = w2 at *
    refine wp_range (by decide) (gf := 23) (lb := #[.pointer (some ⟨w.heap.size + 1 + 1 + 1, 0, none⟩)]) rfl (enters_of Try.func23 (by kernel_rfl) rfl)
      (told_stops Fence.wide 4 trivial rfl (by decide) _ v1 l _ hT20) TKeep.trans (TKeep.putObj hT20) (fun _ => rfl)
      (fun i => i = w.heap.size + 1 + 1 ∨ i = w1.heap.size + 1) (fun i e => by have := s0; rcases e with rfl | rfl <;> omega)
      (fun A B h => TKeep.of_turn h (fun i hi e => by have := s0; rcases hi with h | h; omega; have := hvl0 _ h; have := HV1.out _ h; omega))
      (allPi (w.heap.size + 1 + 1) (w1.heap.size + 1) l) (allPx true (w.heap.size + 1 + 1) (w1.heap.size + 1) l) (allPi_old (by have := s0; omega) (by omega) l) (allPx_old (by have := s0; omega) (by omega) true l) ⟨hr20, hn20, List.nil_prefix⟩ ?a10 ?assign0 ?body0 ?done0 ?stop0
    case assign0 =>
      intro l x Y K hK
      gi_wp2
      exact hK
    case body0 =>
      rintro lp pre x Y ht ⟨hr, hb, hpre⟩ hl
      have htn : Boxed Y (w1.heap.size) 3 (.int .i64 0) := (ht.block _ (by omega) (by have := s0; omega)).trans ht20
      have hlv : Boxed Y w.heap.size 24 (.slice la l.length lc) := (ht.block _ (by have := s0; omega) (by have := s0; omega)).trans hl20
      have hsv : Boxed Y (w.heap.size + 1) 3 (.int .i64 stop) := (ht.block _ (by have := s0; omega) (by have := s0; omega)).trans hs20
      obtain ⟨bb, off, hla, hcl⟩ := HC.out (by omega)
      subst hla
      have hk := hcl pre.length hl
      have hbl := cell_lt hk
      have hkW : Y.cell? ⟨bb, off + pre.length, none⟩ = some (.string l[pre.length]) := by
        rw [← hk]
        exact World.cell?_of_block (w := w) ((ht.block _ (by have := hB20.size; simp; omega) (by have := s0; simp; omega)).trans (hB20.block _ hbl))
      have c1 := htn.cell
      have c2 := hlv.cell
      have c3 := hsv.cell
      have c4 := hb.cell
      have f4 := hb.frozen
      have c5 := hr.cell
      have f5 := hr.frozen
      have HX := Lib.hid hpre
      have HTu := Lib.hid ht
      have HRb := Lib.hid hr
      have HNb := Lib.hid hb
      have HCl := Lib.hid hcl
      clear hpre ht hr hb htn hlv hsv hcl hk
      have SK := Lib.hid s0
      clear hB20 hT20 ht20 hn20 hr20 hs20 hl20
      by_cases hx1 : x.1 = pre.length
      · by_cases hx2 : x.2 = l[pre.length]
        · have hnx : pre ++ [x] <+: its l := (prefix_next HX.out hl x).2 (Prod.ext hx1 hx2)
          have hnp := next_post (by have := SK.out; omega) HRb.out HNb.out hnx
          gi_wp2_with fail
          all_goals first
            | exact ⟨(Turn.setCell _ _ _ _).mono (fun _ _ e => .inr e), hnp⟩
            | exact ⟨(Turn.setCell _ _ _ _).mono (fun _ _ e => .inr e), Or.inr ⟨rfl, rfl, hnp.1, hnp.2.1⟩⟩
        · have hnx : ¬ pre ++ [x] <+: its l := fun h => hx2 (congrArg Prod.snd ((prefix_next HX.out hl x).1 h))
          have hbe := beq_bytes_false hx2
          gi_wp2_with fail
          all_goals exact ⟨(Turn.setCell _ _ _ _).mono (fun _ _ e => .inl e), Or.inl ⟨rfl, hnx⟩⟩
      · have hnx : ¬ pre ++ [x] <+: its l := fun h => hx1 (congrArg Prod.fst ((prefix_next HX.out hl x).1 h))
        gi_wp2_with fail
        all_goals exact ⟨(Turn.setCell _ _ _ _).mono (fun _ _ e => .inl e), Or.inl ⟨rfl, hnx⟩⟩
    case done0 =>
      rintro D xs Y hD hS ht ⟨hr, hb, hpre⟩ hK
      exact ⟨.inl rfl, D, hD, rfl, ht, hK, hr, _, hb, fun h => by cases h⟩
    case stop0 =>
      rintro D c pre Y hD hS ht (⟨rfl, h⟩ | ⟨hfi, rfl, hr, hb⟩) hK
      · exact absurd hS h
      · exact wpIn_exit ⟨.inr rfl, D, hD, rfl, ht, hK, hr, _, hb, fun h => by cases h⟩
  · rintro e a' W ⟨he, D, hD, ha, ht, hK, hr, n, hb, _⟩
    refine both he rfl ?_
    subst ha
    have sW := ht.size
    have s1 : w.heap.size + 1 + 1 + 1 ≤ W.heap.size := by omega
    have hDl : D < W.heap.size := (Array.getElem?_eq_some_iff.1 hK).1
    have htn : Boxed W w1.heap.size 3 (.int .i64 0) := (ht.block _ (by omega) (by omega)).trans ht20
    have HR1 := Lib.hid hr
    have HL1 := Lib.hid (show Boxed W w.heap.size 24 (.slice la l.length lc) from (ht.block _ (by omega) (by omega)).trans hl20)
    have HS1 := Lib.hid (show Boxed W (w.heap.size + 1) 3 (.int .i64 stop) from (ht.block _ (by omega) (by omega)).trans hs20)
    have HB1 := Lib.hid (hB20.trans (ht.below (by omega) (by rintro i (rfl | rfl) <;> omega)) : Below w.heap.size w W)
    have HTt1 := Lib.hid (hT20.keep (TKeep.of_turn ht (fun i hi e => by rcases hi with h | h; omega; have := hvl0 _ h; have := HV1.out _ h; omega)))
    have c1 := htn.cell
    have c2 := hb.cell
    have hD' : w1.heap.size + 2 ≤ D := by omega
    clear hD ht hr hb htn hl20 hs20 hB20 hT20 hr20 hn20 ht20 he hvl0 hsz0
    have HK := Lib.hid hK
    clear hK
    gi_wp2_with fail
    rw [roundsIn_succ]
    gi_wp2_with fail
    have hsz1 : ((W.alloc (.cells #[.int .i64 1] 3)).alloc (.cells #[.int .i64 0] 3)).heap.size = W.heap.size + 2 := by simp
    have hB21 : Below w.heap.size w ((W.alloc (.cells #[.int .i64 1] 3)).alloc (.cells #[.int .i64 0] 3)) := (HB1.out.alloc HB1.out.size _).alloc (by have := HB1.out.size; simp; omega) _
    have ht21 : Boxed ((W.alloc (.cells #[.int .i64 1] 3)).alloc (.cells #[.int .i64 0] 3)) (W.heap.size) 3 (.int .i64 1) := (Boxed.new W _ _).alloc _
    have hn21 : Boxed ((W.alloc (.cells #[.int .i64 1] 3)).alloc (.cells #[.int .i64 0] 3)) (W.heap.size + 1) 3 (.int .i64 0) := by
      have := Boxed.new (W.alloc (.cells #[.int .i64 1] 3)) 3 (.int .i64 0)
      simpa [Boxed] using this
    have hr21 : Boxed ((W.alloc (.cells #[.int .i64 1] 3)).alloc (.cells #[.int .i64 0] 3)) (w.heap.size + 1 + 1) 4 (.bool false) := ((HR1.out.alloc (.cells #[.int .i64 1] 3)).alloc (.cells #[.int .i64 0] 3))
    have hl21 : Boxed ((W.alloc (.cells #[.int .i64 1] 3)).alloc (.cells #[.int .i64 0] 3)) w.heap.size 24 (.slice la l.length lc) := ((HL1.out.alloc (.cells #[.int .i64 1] 3)).alloc (.cells #[.int .i64 0] 3))
    have hs21 : Boxed ((W.alloc (.cells #[.int .i64 1] 3)).alloc (.cells #[.int .i64 0] 3)) (w.heap.size + 1) 3 (.int .i64 stop) := ((HS1.out.alloc (.cells #[.int .i64 1] 3)).alloc (.cells #[.int .i64 0] 3))
    have hT21 : Told ((W.alloc (.cells #[.int .i64 1] 3)).alloc (.cells #[.int .i64 0] 3)) (w.heap.size + 1 + 1 + 1) v1 l := HTt1.out.keep (.of_below (((Below.refl _ W).alloc (Nat.le_refl _) _).alloc (by simp) _))
    have hvl1 := HTt1.out.vlt
    refine wpIn_cut (fun a e a' Y => rangeEnd ((W.alloc (.cells #[.int .i64 1] 3)).alloc (.cells #[.int .i64 0] 3)) (fun i => i = w.heap.size + 1 + 1 ∨ i = W.heap.size + 1) true (w.heap.size + 1 + 1) (W.heap.size + 1) l a e a' Y) ?_ ?_
    · generalize ((W.alloc (.cells #[.int .i64 1] 3)).alloc (.cells #[.int .i64 0] 3)) = w2 at *
      refine wp_range (by decide) (gf := 23) (lb := #[.pointer (some ⟨w.heap.size + 1 + 1 + 1, 0, none⟩)]) rfl (enters_of Try.func23 (by kernel_rfl) rfl)
        (told_stops Fence.wide 4 trivial rfl (by decide) _ v1 l _ hT21) TKeep.trans (TKeep.putObj hT21) (fun _ => rfl)
        (fun i => i = w.heap.size + 1 + 1 ∨ i = W.heap.size + 1) (fun i e => by have := s1; rcases e with rfl | rfl <;> omega)
        (fun A B h => TKeep.of_turn h (fun i hi e => by have := s1; rcases hi with h | h; omega; have := hvl1 _ h; have := HV1.out _ h; omega))
        (allPi (w.heap.size + 1 + 1) (W.heap.size + 1) l) (allPx false (w.heap.size + 1 + 1) (W.heap.size + 1) l) (allPi_old (by have := s1; omega) (by omega) l) (allPx_old (by have := s1; omega) (by omega) false l) ⟨hr21, hn21, List.nil_prefix⟩ ?a11 ?assign1 ?body1 ?done1 ?stop1
      case assign1 =>
        intro l x Y K hK
        gi_wp2
        exact hK
      case body1 =>
        rintro lp pre x Y ht ⟨hr, hb, hpre⟩ hl
        have htn : Boxed Y (W.heap.size) 3 (.int .i64 1) := (ht.block _ (by omega) (by have := s1; omega)).trans ht21
        have hlv : Boxed Y w.heap.size 24 (.slice la l.length lc) := (ht.block _ (by have := s1; omega) (by have := s1; omega)).trans hl21
        have hsv : Boxed Y (w.heap.size + 1) 3 (.int .i64 stop) := (ht.block _ (by have := s1; omega) (by have := s1; omega)).trans hs21
        obtain ⟨bb, off, hla, hcl⟩ := HC.out (by omega)
        subst hla
        have hk := hcl pre.length hl
        have hbl := cell_lt hk
        have hkW : Y.cell? ⟨bb, off + pre.length, none⟩ = some (.string l[pre.length]) := by
          rw [← hk]
          exact World.cell?_of_block (w := w) ((ht.block _ (by have := hB21.size; simp; omega) (by have := s1; simp; omega)).trans (hB21.block _ hbl))
        have c1 := htn.cell
        have c2 := hlv.cell
        have c3 := hsv.cell
        have c4 := hb.cell
        have f4 := hb.frozen
        have c5 := hr.cell
        have f5 := hr.frozen
        have HX := Lib.hid hpre
        have HTu := Lib.hid ht
        have HRb := Lib.hid hr
        have HNb := Lib.hid hb
        have HCl := Lib.hid hcl
        clear hpre ht hr hb htn hlv hsv hcl hk
        have SK := Lib.hid s1
        clear hB21 hT21 ht21 hn21 hr21 hs21 hl21
        by_cases hx1 : x.1 = pre.length
        · by_cases hx2 : x.2 = l[pre.length]
          · have hnx : pre ++ [x] <+: its l := (prefix_next HX.out hl x).2 (Prod.ext hx1 hx2)
            have hnp := next_post (by have := SK.out; omega) HRb.out HNb.out hnx
            gi_wp2_with fail
            all_goals first
              | exact ⟨(Turn.setCell _ _ _ _).mono (fun _ _ e => .inr e), hnp⟩
              | exact ⟨(Turn.setCell _ _ _ _).mono (fun _ _ e => .inr e), Or.inr ⟨rfl, rfl, hnp.1, hnp.2.1⟩⟩
          · have hnx : ¬ pre ++ [x] <+: its l := fun h => hx2 (congrArg Prod.snd ((prefix_next HX.out hl x).1 h))
            have hbe := beq_bytes_false hx2
            gi_wp2_with fail
            all_goals exact ⟨(Turn.setCell _ _ _ _).mono (fun _ _ e => .inl e), Or.inl ⟨rfl, hnx⟩⟩
        · have hnx : ¬ pre ++ [x] <+: its l := fun h => hx1 (congrArg Prod.fst ((prefix_next HX.out hl x).1 h))
          gi_wp2_with fail
          all_goals exact ⟨(Turn.setCell _ _ _ _).mono (fun _ _ e => .inl e), Or.inl ⟨rfl, hnx⟩⟩
      case done1 =>
        rintro D xs Y hD hS ht ⟨hr, hb, hpre⟩ hK
        exact ⟨.inl rfl, D, hD, rfl, ht, hK, hr, _, hb, fun _ => ⟨rfl, by rw [show xs = its l from hS, its_length]⟩⟩
      case stop1 =>
        rintro D c pre Y hD hS ht (⟨rfl, h⟩ | ⟨hfi, rfl, hr, hb⟩) hK
        · exact absurd hS h
        · cases hfi
    · rintro e a' Y ⟨he, D', hD', ha, ht, hK, hr, n', hb, hlast⟩
      obtain ⟨rfl, rfl⟩ := hlast rfl
      subst ha
      have sY := ht.size
      have htn : Boxed Y W.heap.size 3 (.int .i64 1) := (ht.block _ (by omega) (by omega)).trans ht21
      have hl1 : Boxed Y w.heap.size 24 (.slice la l.length lc) := (ht.block _ (by omega) (by omega)).trans hl21
      have c3 := htn.cell
      have c4 := hb.cell
      have c5 := hl1.cell
      have c6 := hr.cell
      have f6 := hr.frozen
      have hBY : Below w.heap.size w Y := hB21.trans (ht.below (by omega) (by rintro i (rfl | rfl) <;> omega))
      have hKD : Y.heap[D]? = some (.deferred (some [])) := (ht.block _ (by omega) (by omega)).trans (((Below.refl _ W).alloc (Nat.le_refl _) _).alloc (by simp) _ |>.block _ hDl |>.trans HK.out)
      have HB := Lib.hid hBY
      have HK1 := Lib.hid hKD
      have HK2 := Lib.hid hK
      have HRr := Lib.hid hr
      clear hBY hKD hK hr hb htn hl1 ht hB21 ht21 hn21 hr21 hl21 hs21 hT21 hvl1
      have hDY : D' < Y.heap.size := (Array.getElem?_eq_some_iff.1 HK2.out).1
      have hsY : W.heap.size + 2 ≤ Y.heap.size := by omega
      have hDD : W.heap.size + 2 ≤ D' := by omega
      clear hsz1 sY hD'
      have c7 := (HRr.out.alloc (.cells #[.int .i64 2] 3)).cell
      have f7 := (HRr.out.alloc (.cells #[.int .i64 2] 3)).frozen
      gi_wp2_with fail
      rw [roundsIn_succ]
      gi_wp2_with fail
      have e2 : ((Y.alloc (.cells #[.int .i64 2] 3)).setCell ⟨w.heap.size + 1 + 1, 0, none⟩ (.bool true)).heap[D']? = some (.deferred (some [])) := (Below.heap_setCell _ _ _ _ (by simp; omega)).trans (((Below.refl _ Y).alloc (Nat.le_refl _) _).block _ hDY |>.trans HK2.out)
      have e1 : ((Y.alloc (.cells #[.int .i64 2] 3)).setCell ⟨w.heap.size + 1 + 1, 0, none⟩ (.bool true)).heap[D]? = some (.deferred (some [])) := (Below.heap_setCell _ _ _ _ (by simp; omega)).trans (((Below.refl _ Y).alloc (Nat.le_refl _) _).block _ (by omega) |>.trans HK1.out)
      have e3 : Below w.heap.size w ((Y.alloc (.cells #[.int .i64 2] 3)).setCell ⟨w.heap.size + 1 + 1, 0, none⟩ (.bool true)) := (HB.out.alloc HB.out.size _).setCell (by simp; omega) _
      have e4 : Boxed ((Y.alloc (.cells #[.int .i64 2] 3)).setCell ⟨w.heap.size + 1 + 1, 0, none⟩ (.bool true)) (w.heap.size + 1 + 1) 4 (.bool true) := (HRr.out.alloc _).set (.bool true)
      exact leave_box2 rfl rfl e4 (by omega) e2 e1 e3 (by omega) (by omega)
end Go.Proofs.Ytdogfkjdoldpiaa
