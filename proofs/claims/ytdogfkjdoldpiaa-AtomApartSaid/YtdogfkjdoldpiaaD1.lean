/- AtomApart: the walk. -/
import Derived.Test.YtdogfkjdoldpiaaB9
import Derived.Deep.CutRange
import Derived.Sort.CutIn
import Derived.RangeFuncWrites
namespace Go.Proofs.Ytdogfkjdoldpiaa
open Go.RowKit Go.Maps Go.Shelf
attribute [local go_sem] Oper.semAt_some

theorem wp_normal {P : Program} {c : Code} {Q : Exit → Act → World → Prop} {a : Act} {w : World} (h : c.wp P (Exit.then (fun a w => Q .normal a w) (fun _ _ _ => False)) a w) : c.wp P Q a w :=
  wp_mono h fun e a w he => by cases e <;> first | exact he | exact he.elim
theorem wpIn_normal {F : Fence} {n : Nat} {P : Program} {c : Code} {Q : Exit → Act → World → Prop} {a : Act} {w : World} (h : c.wpIn F n P (Exit.then (fun a w => Q .normal a w) (fun _ _ _ => False)) a w) : c.wpIn F n P Q a w :=
  wpIn_mono h fun e a w he => by cases e <;> first | exact he | exact he.elim
theorem itsFrom_names : ∀ (k : Nat) (l : List ByteArray), (itsFrom k l).map Prod.snd = l
  | _, [] => rfl
  | k, s :: l => by simp [itsFrom, itsFrom_names (k + 1) l]
theorem names_next {pre : List (Nat × ByteArray)} {l : List ByteArray} (h : pre.map Prod.snd <+: l) (hl : pre.length < l.length) (x : Nat × ByteArray) : (pre ++ [x]).map Prod.snd <+: l ↔ x.2 = l[pre.length] := by
  have he : pre.map Prod.snd = l.take pre.length := by have := List.prefix_iff_eq_take.1 h; simpa using this
  have ht := List.take_succ_eq_append_getElem hl
  rw [List.map_append, List.map_cons, List.map_nil]
  constructor
  · intro hx
    have h2 := List.prefix_iff_eq_take.1 hx
    rw [List.length_append, List.length_cons, List.length_nil, Nat.zero_add, List.length_map, ht, ← he] at h2
    have := List.append_cancel_left h2
    simpa using this
  · intro hx
    rw [hx, he, ← ht]
    exact List.take_prefix _ _
/-- the blocks that the rounds may turn -/
def apT (rb nb p m : Nat) (v : Value) (i : Nat) : Prop := i = rb ∨ i = nb ∨ tabIn p m v i
/-- between two rounds: the result, the counter, and the table, which may have grown -/
def ApIn (w5 : World) (rb nb p m : Nat) (v : Value) (L : List ByteArray) (pre : List (Nat × ByteArray)) (W : World) : Prop :=
  Turn (apT rb nb p m v) w5 W ∧ Boxed W rb 4 (.bool false) ∧ Boxed W nb 3 (.int .i64 pre.length) ∧ pre.map Prod.snd <+: L ∧
    ∃ v' L', Tab W p m v' L' ∧ ∀ b, v'.ownBlock = some b → v.ownBlock = some b ∨ w5.heap.size ≤ b
/-- a round has left: no right name brings it about -/
def ApOut (L : List ByteArray) (_ : Code) (pre : List (Nat × ByteArray)) (_ : World) : Prop := ¬ pre.map Prod.snd <+: L
theorem tab_grown {W W' : World} {p m : Nat} {v : Value} {l : List ByteArray} {row : Option Nat} (h : Tab W p m v l) (hg : W.grownBy W' row) {B : Nat} (hp : p < B) (hm : m < B) (hr : ∀ r, row = some r → B ≤ r ∧ ∃ o : Obj, W.heap[r]? = some o ∧ o.isCells = false) : Tab W' p m v l := by
  refine h.same fun i hi hlt => hg.block i hlt (fun e => ?_)
  obtain ⟨hB, o, ho, hc⟩ := hr i e.symm
  rcases hi with rfl | rfl | hi
  · omega
  · omega
  · rcases h.row.2 with ⟨rfl, _⟩ | ⟨g, cap, cur, rfl, _, hgb, _⟩
    · cases hi
    · cases hi
      rw [hgb] at ho
      cases ho
      cases hc
theorem apIn_own {w5 : World} {rb nb p m : Nat} {v : Value} {L : List ByteArray} (hrb : rb < w5.heap.size) (hnb : nb < w5.heap.size) (hp : p < w5.heap.size) (hm : m < w5.heap.size) : OwnFrom w5.heap.size (ApIn w5 rb nb p m v L) := by
  rintro s W W' row ⟨h1, h2, h3, h4, v', L', h5, h6⟩ hg hr
  have hk : ∀ k, k < w5.heap.size → W'.heap[k]? = W.heap[k]? := fun k hk => by
    refine hg.block k (Nat.lt_of_lt_of_le hk h1.size) (fun e => ?_)
    have := (hr k e.symm).1
    omega
  exact ⟨⟨hg.os.trans h1.os, hg.tape.trans h1.tape, hg.output.trans h1.output, Nat.le_trans h1.size hg.size, fun k a b => (hk k a).trans (h1.block k a b)⟩, (hk _ hrb).trans h2, (hk _ hnb).trans h3, h4, v', L', tab_grown h5 hg hp hm hr, h6⟩
theorem ApIn.drew {w5 : World} {rb nb p m : Nat} {v : Value} {L : List ByteArray} {pre : List (Nat × ByteArray)} {W : World} (h : ApIn w5 rb nb p m v L pre W) : ApIn w5 rb nb p m v L pre W.drew := by
  obtain ⟨h1, h2, h3, h4, v', L', h5, h6⟩ := h
  exact ⟨h1.drew, h2, h3, h4, v', L', h5.below (Below.refl _ W).drew, h6⟩
theorem ApIn.next {w5 : World} {rb nb p m : Nat} {v : Value} {L : List ByteArray} {pre : List (Nat × ByteArray)} {x : Nat × ByteArray} {W : World} (h : ApIn w5 rb nb p m v L pre W) (hne : rb ≠ nb) (hx : (pre ++ [x]).map Prod.snd <+: L) :
    ApIn w5 rb nb p m v L (pre ++ [x]) (W.setCell ⟨nb, 0, none⟩ (.int .i64 (pre.length + 1))) := by
  obtain ⟨h1, h2, h3, h4, v', L', h5, h6⟩ := h
  exact ⟨h1.andThen (Turn.setCell _ _ _ _) (fun i e => .inl (.inr (.inl e))), h2.other hne _, by have := h3.set (.int .i64 (pre.length + 1)); simpa using this, hx, v', L',
    h5.same (fun i hi _ => Below.heap_setCell _ _ _ _ (fun e => by subst e; exact tab_not_box h5 h3 (by decide) (by decide) hi)), h6⟩
theorem apOut_own {B : Nat} {L : List ByteArray} (c : Code) : OwnFrom B (ApOut L c) := fun _ _ _ _ h _ _ => h
/-- Put in a round -/
theorem ApIn.put {w5 : World} {rb nb p m : Nat} {v : Value} {L : List ByteArray} {pre : List (Nat × ByteArray)} {W : World} (h : ApIn w5 rb nb p m v L pre W) (hp : p < w5.heap.size) (hm : m < w5.heap.size) (s : ByteArray) (hs : s.size ≤ maxLen)
    {bx : Nat} {v1 : Value} (hbx : bx < w5.heap.size) (hv1 : ∀ g, v1.ownBlock = some g → g < w5.heap.size) (hn : ∀ i, tabIn p m v i → i ≠ bx ∧ v1.ownBlock ≠ some i) :
    Calls Try.prog 13 #[.pointer (some ⟨p, 0, none⟩), .string s] W fun e W' =>
      (∃ n er, e = .returned (.tuple #[.int .i64 n, .int .i64 er])) ∧ ApIn w5 rb nb p m v L pre W' ∧ KeepsFrom w5.heap.size W W' ∧ TKeep bx v1 W W' := by
  obtain ⟨h1, h2, h3, h4, v', L', h5, h6⟩ := h
  refine (tput_any p m v' L' s W h5 hs).mono fun e W' ⟨v'', he, hT', ht, hv⟩ => ?_
  have hin : ∀ i, tabIn p m v' i → apT rb nb p m v i ∨ w5.heap.size ≤ i := by
    rintro i (e | e | e)
    · exact .inl (.inr (.inr (.inl e)))
    · exact .inl (.inr (.inr (.inr (.inl e))))
    · rcases h6 i e with e | e
      · exact .inl (.inr (.inr (.inr (.inr e))))
      · exact .inr e
  refine ⟨⟨_, _, he⟩, ⟨h1.andThen ht hin, (ht.block _ h2.lt (tab_not_box h5 h2 (by decide) (by decide))).trans h2, (ht.block _ h3.lt (tab_not_box h5 h3 (by decide) (by decide))).trans h3, h4, v'', _, hT', ?_⟩, ?_, ?_⟩
  · intro b e
    rcases hv with hv | hv
    · rw [hv] at e; exact h6 b e
    · have := hv b e; have := h1.size; exact .inr (by omega)
  · refine ⟨ht.size, fun k o hk ho hc => (ht.block k (Array.getElem?_eq_some_iff.1 ho).1 (fun hi => ?_)).trans ho⟩
    rcases hi with hi | hi | hi
    · omega
    · omega
    · rcases h5.row.2 with ⟨rfl, _⟩ | ⟨g, cap, cur, rfl, _, hgb, _⟩
      · cases hi
      · cases hi
        rw [hgb] at ho
        cases ho
        cases hc
  · refine TKeep.of_turn ht (fun i hi hti => ?_)
    have hlt : i < w5.heap.size := by rcases hi with rfl | hi; exact hbx; exact hv1 i hi
    have : tabIn p m v i := by
      rcases hti with e | e | e
      · exact .inl e
      · exact .inr (.inl e)
      · rcases h6 i e with e | e
        · exact .inr (.inr e)
        · omega
    rcases hi with e | e
    · exact (hn i this).1 e
    · exact (hn i this).2 e
def apRel (w : World) (p m tb lb : Nat) (l : List ByteArray) (t7 : Value) (wr : World) : Prop :=
  ∃ k : Nat, k ≤ l.length ∧ k ≤ 100 ∧ t7 = .int .i64 k ∧ Ap w p m tb lb (lst l k) (lst l k) wr
set_option maxRecDepth 100000 in
set_option maxHeartbeats 4000000 in
theorem apart_walk (va vb : Value) (la lb : List ByteArray) (w : World) (ha : Strs w va la ∧ ∀ s ∈ la, s.size ≤ maxLen) (hb : Strs w vb lb ∧ ∀ s ∈ lb, s.size ≤ maxLen) :
    Calls Try.prog 4 #[va, vb] w (RB w (.bool true)) := by
  obtain ⟨ha, hsa⟩ := ha
  obtain ⟨hb, hsb⟩ := hb
  have HSA := Lib.hid hsa
  have HSB := Lib.hid hsb
  obtain ⟨aa, ca, rfl, hma, hca⟩ := ha
  obtain ⟨ab, cb, rfl, hmb, hcb⟩ := hb
  have HCA := Lib.hid hca
  have HCB := Lib.hid hcb
  clear hsa hsb hca hcb
  have hq := eqlSeqNil
  refine (callsIn_wide (n := 5)).1 ?_
  refine callsIn_of_wp_marks Try.func4 rfl trivial ?_ rfl
  simp only [Try.ntmps4, List.size_toArray, List.length_cons, List.length_nil, Nat.reduceAdd, Nat.reduceSub, Array.replicate_succ, Array.replicate_zero, List.push_toArray, List.append_toArray, List.nil_append, List.cons_append]
  refine wpIn_wide.2 ?_
  go_wp2_with fail
  have hb0 : Below w.heap.size w ((w.alloc (.cells #[.slice ab lb.length cb] 24)).alloc (.cells #[.bool false] 4)) :=
    ((Below.refl _ w).alloc (Nat.le_refl _) _).alloc (by simp) _
  have s0 : ((w.alloc (.cells #[.slice ab lb.length cb] 24)).alloc (.cells #[.bool false] 4)).heap.size = w.heap.size + 1 + 1 := by simp
  have hr0 : Boxed ((w.alloc (.cells #[.slice ab lb.length cb] 24)).alloc (.cells #[.bool false] 4)) (w.heap.size + 1) 4 (.bool false) := by
    have := Boxed.new (w.alloc (.cells #[.slice ab lb.length cb] 24)) 4 (.bool false)
    simpa [Boxed] using this
  have hx0 : Boxed ((w.alloc (.cells #[.slice ab lb.length cb] 24)).alloc (.cells #[.bool false] 4)) w.heap.size 24 (.slice ab lb.length cb) := (Boxed.new w _ _).alloc _
  generalize (w.alloc (.cells #[.slice ab lb.length cb] 24)).alloc (.cells #[.bool false] 4) = wb at *
  have HB0 := Lib.hid hb0
  have HR0 := Lib.hid hr0
  have HX0 := Lib.hid hx0
  clear hb0 hr0 hx0
  refine (alive_any _).mono ?_
  rintro e w1 ⟨rfl, hb1⟩
  have s1 := hb1.size
  go_wp2_with fail
  refine (new_any w1).mono ?_
  rintro e w2 ⟨rfl, hT2, hb2⟩
  have hB2 : Below wb.heap.size wb w2 := hb1.trans (hb2.mono (by omega))
  have s2 := hT2.lt.1
  have hA : Ap wb (w1.heap.size + 1) w1.heap.size w2.heap.size (w2.heap.size + 1) (lst la 0) (lst la 0) ((w2.alloc (.cells #[.pointer (some ⟨w1.heap.size + 1, 0, none⟩)] 25)).alloc (.cells #[.slice none 0 0] 24)) := by
    refine ⟨(hB2.alloc hB2.size _).alloc (by have := hB2.size; simp; omega) _, (Boxed.new w2 _ _).alloc _, .slice none 0 0, .slice none 0 0, (hT2.below ((Below.refl _ w2).alloc (Nat.le_refl _) _)).below ((Below.refl _ _).alloc (Nat.le_refl _) _), ?_, ?_, Strs.nil _, fun h => absurd rfl h⟩
    · rintro i (h | h | h)
      · omega
      · omega
      · cases h
    · have := Boxed.new (w2.alloc (.cells #[.pointer (some ⟨w1.heap.size + 1, 0, none⟩)] 25)) 24 (.slice none 0 0)
      simpa [Boxed] using this
  have HA := Lib.hid hA
  clear hA hb1 hb2 hT2 hB2
  go_wp2_with fail
  go_loopw [7] (fun t7 wr => apRel wb (w1.heap.size + 1) w1.heap.size w2.heap.size (w2.heap.size + 1) la t7 wr) (fun t7 _ => 100 - (intOf t7).toNat)
  case atStart => exact ⟨0, by omega, by omega, rfl, HA.out⟩
  case round =>
    obtain ⟨k, hk, hk2, rfl, hL⟩ := hrel
    have HL := Lib.hid hL
    obtain ⟨cT, fL, lv, cL, _⟩ := hL.load
    clear hL
    by_cases hlt : k < la.length ∧ k < 100
    · obtain ⟨hlt, hlt2⟩ := hlt
      obtain ⟨b, off, rfl, hcell⟩ := HCA.out (by omega)
      have hck := hcell k hlt
      have hckr := ((HB0.out.trans (HL.out.1.mono (by omega))).cell (p := ⟨b, off + k, none⟩) (cell_lt hck)).trans hck
      clear hck hcell
      have hsk := HSA.out _ (List.getElem_mem hlt)
      have hlen := lst_len la k hk
      go_wp2_with fail
      go_still_tail 5, (by kernel_rfl)
      change wpList _ _ _ _ _ wr.drew
      have HLd := Lib.hid (HL.out.later (Below.refl _ wr).drew)
      generalize wr.drew = wd at HLd ⊢
      clear HL cT fL cL hckr
      go_wp2_with fail
      refine (HLd.out.put la[k] hsk).mono ?_
      rintro e w3 ⟨rfl, h3⟩
      rw [← lst_succ la hlt] at h3
      have H3 := Lib.hid h3
      obtain ⟨cT, fL, lv3, cL, _⟩ := h3.load
      clear h3
      obtain ⟨b, off, hbo, hcell⟩ := HCA.out (by omega)
      cases hbo
      have hck := hcell k hlt
      have hckr := ((HB0.out.trans (H3.out.1.mono (by omega))).cell (p := ⟨b, off + k, none⟩) (cell_lt hck)).trans hck
      clear hck hcell
      go_wp2_with fail
      have HLd := Lib.hid (H3.out.later (Below.refl _ w3).drew)
      have cLd := Lib.hid (show w3.drew.cell? ⟨w2.heap.size + 1, 0, none⟩ = some lv3 from cL)
      have hne1 : w2.heap.size ≠ w2.heap.size + 1 := by omega
      have hle1 : wb.heap.size ≤ w2.heap.size + 1 := by omega
      have hle2 : (lst la k).length ≤ 4096 := by omega
      have hls := Lib.hid (lst_succ la hlt)
      refine wp_normal ?_
      go_region_with (refine (HLd.out.ref cLd.out la[k] hsk hle2 hne1 hle1).mono ?_; rintro e w4 ⟨a4, n4, c4, rfl, cc4, f4, h4⟩; rw [← hls.out] at h4)
      all_goals
        have H4 := Lib.hid h4
        clear h4
        go_wp2_with fail
        go_roundw
        case rel => exact ⟨k + 1, by omega, by omega, by go_num, H4.out⟩
        case measure => simp [intOf]; omega
    · have hend : ¬ k < la.length ∨ (k < la.length ∧ ¬ k < 100) := by omega
      clear hlt cT fL cL
      go_upto_region 6 with fail
      go_cut [27] from 20 to 46 (fun t27 wx => t27 = .bool false ∧ wx = wr)
      case first =>
        rcases hend with h | ⟨h', h⟩
        all_goals
          go_wp2_with fail
          go_meet
          exact ⟨by first | rfl | (simp; omega), rfl⟩
      case rest =>
        obtain ⟨rfl, rfl⟩ := hcut
        clear hend
        obtain ⟨wL, hwL⟩ : ∃ wL, wL = wc := ⟨wc, rfl⟩
        subst hwL
        have hlen := lst_len la k hk
        obtain ⟨hbw, hbt, v, lv, hT, hfr, hbl, hS, hdis⟩ := HL.out
        generalize lst la k = L at *
        obtain ⟨al, cl, rfl, hml, hcl⟩ := hS
        have cT := hbt.cell
        have cL := hbl.cell
        have HT := Lib.hid hT
        have HBT := Lib.hid hbt
        have HBL := Lib.hid hbl
        have HBW := Lib.hid hbw
        have HD := Lib.hid hdis
        have HF := Lib.hid hfr
        have HCL := Lib.hid hcl
        clear hdis hT hbt hbl hbw hcl hfr HL HA
        go_wp2_with fail
        refine (all_any _ _ v L wL HT.out).mono ?_
        rintro e w3 ⟨v1, rfl, hT1, hb3, hv1⟩
        have cT3 : w3.cell? ⟨w2.heap.size, 0, none⟩ = some (.pointer (some ⟨w1.heap.size + 1, 0, none⟩)) := (World.cell?_of_block (w := wL) (hb3.block _ HBT.out.lt)).trans cT
        have HT1 := Lib.hid hT1
        have HB3 := Lib.hid hb3
        have HV1 := Lib.hid hv1
        clear hT1 hb3 hv1
        go_wp2_with fail
        refine (copy_any _ _ v L w3 (HT.out.below HB3.out)).mono ?_
        rintro e w4 ⟨pc, mc, vc, rfl, hT4, hb4, hf4⟩
        have HT4 := Lib.hid hT4
        have HB4 := Lib.hid hb4
        have HF4 := Lib.hid hf4
        clear hT4 hb4 hf4
        go_wp2_with fail
        have hv1l := HT1.out.vlt
        have hbl1 := HT1.out.lt
        have hbtl := HBT.out.lt
        have hbll := HBL.out.lt
        have s4 := HB4.out.size
        have s3 := HB3.out.size
        have hTl := HT.out.lt
        have hsz : (w4.alloc (.cells #[.int .i64 0] 3)).heap.size = w4.heap.size + 1 := by simp
        have hBc5 : Below wL.heap.size wL (w4.alloc (.cells #[.int .i64 0] 3)) := (HB3.out.trans (HB4.out.mono s3)).alloc (by omega) _
        have hB45 : Below w3.heap.size w3 (w4.alloc (.cells #[.int .i64 0] 3)) := HB4.out.alloc s4 _
        have hT5 := HT.out.below hBc5
        have ho5 : Told (w4.alloc (.cells #[.int .i64 0] 3)) wL.heap.size v1 L := HT1.out.keep (.of_below hB45)
        have hc4l : ∀ i, tabIn pc mc vc i → i < w4.heap.size := by
          rintro i (e | e | e)
          · rw [e]; exact HT4.out.lt.1
          · rw [e]; exact HT4.out.lt.2.1
          · exact HT4.out.lt.2.2 i e
        have hc5 : Tab (w4.alloc (.cells #[.int .i64 0] 3)) pc mc vc L := HT4.out.below ((Below.refl _ w4).alloc (Nat.le_refl _) _)
        have hBb5 : Below wb.heap.size wb (w4.alloc (.cells #[.int .i64 0] 3)) := HBW.out.trans (hBc5.mono HBW.out.size)
        have hr5 : Boxed (w4.alloc (.cells #[.int .i64 0] 3)) (w.heap.size + 1) 4 (.bool false) := (hBb5.block _ (by omega)).trans HR0.out
        have hx5 : Boxed (w4.alloc (.cells #[.int .i64 0] 3)) w.heap.size 24 (.slice ab lb.length cb) := (hBb5.block _ (by omega)).trans HX0.out
        have hn5 : Boxed (w4.alloc (.cells #[.int .i64 0] 3)) w4.heap.size 3 (.int .i64 0) := Boxed.new _ _ _
        have ht5 : Boxed (w4.alloc (.cells #[.int .i64 0] 3)) w2.heap.size 25 (.pointer (some ⟨w1.heap.size + 1, 0, none⟩)) := (hBc5.block _ HBT.out.lt).trans HBT.out
        have hl5 : Boxed (w4.alloc (.cells #[.int .i64 0] 3)) (w2.heap.size + 1) 24 (.slice al L.length cl) := (hBc5.block _ HBL.out.lt).trans HBL.out
        have hS5 : Strs (w4.alloc (.cells #[.int .i64 0] 3)) (.slice al L.length cl) L := Strs.below ⟨al, cl, rfl, hml, HCL.out⟩ hBc5
        generalize w4.alloc (.cells #[.int .i64 0] 3) = w5 at *
        have hd5 := HD.out
        clear hq HT1 HB3 HB4 HT4 HT HBL HBT HBW HCL
        have hFacts : ∀ pre W, ApIn w5 (w.heap.size + 1) w4.heap.size (w1.heap.size + 1) w1.heap.size v L pre W →
            Boxed W w.heap.size 24 (.slice ab lb.length cb) ∧ Boxed W w2.heap.size 25 (.pointer (some ⟨w1.heap.size + 1, 0, none⟩)) ∧ Boxed W (w2.heap.size + 1) 24 (.slice al L.length cl) ∧
            (L ≠ [] → Strs W (.slice al L.length cl) L) ∧ ∀ b, b < w.heap.size → W.heap[b]? = w.heap[b]? := by
          intro pre W hI
          obtain ⟨h1, _⟩ := hI
          refine ⟨(h1.block _ hx5.lt (by rintro (e | e | e); omega; omega; exact tab_not_box hT5 hx5 (by decide) (by decide) e)).trans hx5,
            (h1.block _ ht5.lt (by rintro (e | e | e); omega; omega; exact tab_not_box hT5 ht5 (by decide) (by decide) e)).trans ht5,
            (h1.block _ hl5.lt (by rintro (e | e | e); omega; omega; exact tab_not_box hT5 hl5 (by decide) (by decide) e)).trans hl5,
            fun hLne => hS5.same fun b e hlt => h1.block b hlt (by
              rintro (e2 | e2 | e2)
              · subst e2; exact strs_not_box hS5 hLne hr5 (by intro s e; cases e) e
              · subst e2; exact strs_not_box hS5 hLne hn5 (by intro s e; cases e) e
              · exact hd5 hLne b e e2), fun b hb => (h1.block b (by omega) (by
            rintro (e2 | e2 | e2)
            · omega
            · omega
            · have := HF.out b e2; omega)).trans ((hBb5.block b (by omega)).trans (HB0.out.block b hb))⟩
        have Htv := Lib.hid (show ∀ i, tabIn (w1.heap.size + 1) w1.heap.size v i → i ≠ wL.heap.size ∧ v1.ownBlock ≠ some i from fun i hi => by
          have hlt : i < wL.heap.size := by
            rcases hi with e | e | e
            · omega
            · omega
            · exact hTl.2.2 i e
          exact ⟨by omega, fun e => by have := HV1.out i e; omega⟩)
        have hFacts := Lib.hid hFacts
        have HC5 := Lib.hid hc5
        have HBb5 := Lib.hid hBb5
        have h0 : ApIn w5 (w.heap.size + 1) w4.heap.size (w1.heap.size + 1) w1.heap.size v L [] w5 := ⟨Turn.refl _ _, hr5, hn5, by simp, v, L, hT5, fun b e => .inl e⟩
        clear hBb5 hBc5 hB45 hc5 hd5 hx5 ht5 hl5 hS5 hr5 hn5 hT5
        refine wpIn_wide (n := 5).1 ?_
        refine wpIn_rangeFunc_ownG rfl (by decide) (gf := 23) (lb := #[.pointer (some ⟨wL.heap.size, 0, none⟩)]) rfl trivial (enters_of Try.func23 (by kernel_rfl) rfl)
          (told_stops Fence.wide 4 trivial rfl (by decide) _ v1 L _ ho5) TKeep.trans (TKeep.putObj ho5) (Below.refl _ _) (fun _ => rfl)
          (ApIn w5 (w.heap.size + 1) w4.heap.size (w1.heap.size + 1) w1.heap.size v L) (ApOut L) (apIn_own (by omega) (by omega) (by omega) (by omega)) (fun c => apOut_own c)
          h0 ?a1 ?assign ?body ?done ?stop
        case assign =>
          intro l x Y K hK
          gi_wp2
          exact hK
        case body =>
          rintro lp pre x W hI hl
          have hI2 := hI
          obtain ⟨h1, hr, hn, hpre, v', L', hT', hv'⟩ := hI2
          obtain ⟨hxW, htW, _, _, hbB⟩ := hFacts.out pre W hI
          have c1 := hxW.cell
          have c2 := htW.cell
          have HI := Lib.hid hI
          have HbB := Lib.hid hbB
          clear hI h1 hr hn hpre hT' hv' hxW htW hbB
          gi_upto_region 17 with fail
          obtain ⟨tst, htst⟩ : ∃ t : Bool, t = decide (x.1 < lb.length ∧ x.1 < 100) := ⟨_, rfl⟩
          gi_cut [61] from 54 (fun t61 wx => t61 = .bool tst ∧ wx = W)
          case first =>
            subst htst
            by_cases q1 : x.1 < lb.length
            · by_cases q2 : x.1 < 100
              · gi_wp2_with fail
                gi_meet
                exact ⟨by simp [q1, q2]; omega, rfl⟩
              · gi_wp2_with fail
                gi_meet
                exact ⟨by simp [q2]; omega, rfl⟩
            · gi_wp2_with fail
              gi_meet
              exact ⟨by simp [q1], rfl⟩
          case rest =>
            obtain ⟨rfl, rfl⟩ := hcut
            gi_upto_if 61 with fail
            gi_cut [] from 62 (fun wx => ApIn w5 (w.heap.size + 1) w4.heap.size (w1.heap.size + 1) w1.heap.size v L pre wx ∧ KeepsFrom w5.heap.size wc wx ∧ TKeep wL.heap.size v1 wc wx)
            case first =>
              cases tst with
              | false =>
                gi_wp2_with fail
                gi_meet
                exact ⟨HI.out, KeepsFrom.refl _ _, TKeep.of_below (Below.refl _ _)⟩
              | true =>
                obtain ⟨hlx, _⟩ := of_decide_eq_true htst.symm
                obtain ⟨bb, off, hab, hcell⟩ := HCB.out (by omega)
                subst hab
                have hck := hcell x.1 hlx
                have hckr := (World.cell?_of_block (w := w) (a := ⟨bb, off + x.1, none⟩) (HbB.out _ (cell_lt hck))).trans hck
                have hckd : wc.drew.cell? ⟨bb, off + x.1, none⟩ = some (.string lb[x.1]) := hckr
                have hsb := HSB.out _ (List.getElem_mem hlx)
                clear hck hcell htst
                gi_wp2_with fail
                refine wpIn_normal ?_
                have hId := Lib.hid HI.out.drew
                have hvl5 := Lib.hid (show ∀ g, v1.ownBlock = some g → g < w5.heap.size from fun g e => by have := hv1l g e; omega)
                have hbx5 : wL.heap.size < w5.heap.size := by omega
                have hp5 : w1.heap.size + 1 < w5.heap.size := by omega
                have hm5 : w1.heap.size < w5.heap.size := by omega
                gi_region_with (refine ⟨trivial, ((callsIn_wide.2 (hId.out.put hp5 hm5 lb[x.1] hsb hbx5 hvl5.out Htv.out)).inRound lp).mono ?_⟩; rintro e w6 ⟨⟨n6, er6, rfl⟩, h6, k6, t6⟩)
                all_goals
                  have H6 := Lib.hid h6
                  have K6 := Lib.hid k6
                  have T6 := Lib.hid t6
                  clear h6 k6 t6
                  gi_wp2_with fail
                  gi_meet
                  exact ⟨H6.out, ⟨K6.out.size, K6.out.same⟩, ⟨T6.out.1, T6.out.2⟩⟩
            case rest =>
              obtain ⟨h6, k6, t6⟩ := hcut
              obtain ⟨_, _, hl6, hS6, _⟩ := hFacts.out pre wc h6
              obtain ⟨a6, c6, e6, _, hc6⟩ := hS6 (by intro e; subst e; simp at hl)
              cases e6
              obtain ⟨bb, off, hab, hcell⟩ := hc6 (by omega)
              subst hab
              have hck := hcell pre.length hl
              have h62 := h6
              obtain ⟨_, hr6, hn6, hpre6, _⟩ := h62
              have c3 := hl6.cell
              have c4 := hn6.cell
              have f4 := hn6.frozen
              have c5 := hr6.cell
              have f5 := hr6.frozen
              have H6 := Lib.hid h6
              have K6 := Lib.hid k6
              have T6 := Lib.hid t6
              have HX := Lib.hid hpre6
              clear h6 k6 t6 hpre6 hr6 hn6 hl6 hS6 hc6 hcell htst c1 c2
              have kn : w4.heap.size < w5.heap.size := by omega
              have kr : w.heap.size + 1 < w5.heap.size := by omega
              have knr : w.heap.size + 1 ≠ w4.heap.size := by omega
              have tn : w4.heap.size ≠ wL.heap.size ∧ v1.ownBlock ≠ some w4.heap.size := ⟨by omega, fun e => by have := hv1l _ e; omega⟩
              by_cases hx2 : x.2 = L[pre.length]
              · have hnx : (pre ++ [x]).map Prod.snd <+: L := (names_next HX.out hl x).2 hx2
                have hnp := Lib.hid (H6.out.next knr hnx)
                gi_wp2_with fail
                exact ⟨K6.out.trans ((Turn.setCell _ _ _ _).keepsFrom (fun i e => by subst e; exact kn)), T6.out.trans (TKeep.of_turn (Turn.setCell _ _ _ _) (fun i hi e => by subst e; rcases hi with e | e; exact tn.1 e; exact tn.2 e)), hnp.out⟩
              · have hnx : ¬ (pre ++ [x]).map Prod.snd <+: L := fun h => hx2 ((names_next HX.out hl x).1 h)
                have hbe := beq_bytes_false hx2
                gi_wp2_with fail
                exact ⟨K6.out.trans ((Turn.setCell _ _ _ _).keepsFrom (fun i e => by subst e; exact kr)), hnx⟩
        case stop =>
          rintro D c pre W hD hS hp hK
          have := (show pre <+: its L from hS).map Prod.snd
          rw [show (its L).map Prod.snd = L from itsFrom_names 0 L] at this
          exact absurd this hp
        case done =>
          rintro D xs W hD hS hI hK
          have hxs : xs = its L := hS
          subst hxs
          have HI := Lib.hid hI
          have HK := Lib.hid hK
          have hD' : w5.heap.size ≤ D := hD
          clear hI hK
          go_wp2_with fail
          go_loopw [16] (fun t16 wr => ∃ i : Nat, i ≤ lb.length ∧ i ≤ 100 ∧ t16 = .int .i64 i ∧ ApIn w5 (w.heap.size + 1) w4.heap.size (w1.heap.size + 1) w1.heap.size v L (its L) wr ∧ wr.heap[D]? = some (.deferred (some []))) (fun t16 _ => 100 - (intOf t16).toNat)
          case atStart => exact ⟨0, by omega, by omega, rfl, HI.out, HK.out⟩
          case round =>
            obtain ⟨i, hi1, hi2, rfl, hR, hRD⟩ := hrel
            obtain ⟨hx6, ht6, hl6, hS6, hW6⟩ := hFacts.out _ _ hR
            have c1 := hx6.cell
            have c2 := ht6.cell
            by_cases hlt : i < lb.length ∧ i < 100
            · obtain ⟨hlx, hlt2⟩ := hlt
              obtain ⟨bb, off, hab, hcell⟩ := HCB.out (by omega)
              subst hab
              have hck := hcell i hlx
              have hckr := (World.cell?_of_block (w := w) (a := ⟨bb, off + i, none⟩) (hW6 _ (cell_lt hck))).trans hck
              have hsb := HSB.out _ (List.getElem_mem hlx)
              have HR := Lib.hid hR
              have HRD := Lib.hid hRD
              clear hck hcell hx6 ht6 hl6 hS6 hW6 hR hRD
              go_wp2_with fail
              go_still_tail 5, (by kernel_rfl)
              change wpList _ _ _ _ _ wr.drew
              have hId := Lib.hid HR.out.drew
              have hIK : Hid (wr.drew.heap[D]? = some (.deferred (some []))) := HRD.out
              generalize wr.drew = wd at hId hIK ⊢
              clear HR HRD c1 c2 hckr
              have hvl5 := Lib.hid (show ∀ g, v1.ownBlock = some g → g < w5.heap.size from fun g e => by have := hv1l g e; omega)
              go_wp2_with fail
              refine (hId.out.put (by omega) (by omega) lb[i] hsb (bx := wL.heap.size) (by omega) hvl5.out Htv.out).mono ?_
              rintro e w6 ⟨⟨n6, er6, rfl⟩, h6, k6, _⟩
              have H6 := Lib.hid h6
              have hK6 : Hid (w6.heap[D]? = some (.deferred (some []))) := k6.same D _ hD' hIK.out rfl
              clear h6 k6
              go_wp2_with fail
              go_roundw
              case rel => exact ⟨i + 1, by omega, by omega, by go_num, H6.out, hK6.out⟩
              case measure => simp [intOf]; omega
            · have hend : ¬ i < lb.length ∨ (i < lb.length ∧ ¬ i < 100) := by omega
              clear hlt
              go_upto_region 23 with fail
              go_cut [89] from 82 to 97 (fun t89 wx => t89 = .bool false ∧ wx = wr)
              case first =>
                rcases hend with h | ⟨h', h⟩
                all_goals
                  go_wp2_with fail
                  go_meet
                  exact ⟨by first | rfl | (simp; omega), rfl⟩
              case rest =>
                obtain ⟨rfl, rfl⟩ := hcut
                have hSL : Strs wc (.slice al L.length cl) L := by
                  by_cases hLe : L = []
                  · subst hLe; exact ⟨al, cl, rfl, hml, fun h => by simp at h⟩
                  · exact hS6 hLe
                obtain ⟨h1, hr6, hn6, _, _⟩ := hR
                rw [its_length] at hn6
                have hTc := HC5.out.same (fun i hi hlt => h1.block i hlt (by
                  have hg := HF4.out i hi
                  rintro (e2 | e2 | e2)
                  · omega
                  · have := hc4l i hi; omega
                  · have : i < wL.heap.size := by
                      rcases e2 with e | e | e
                      · omega
                      · omega
                      · exact hTl.2.2 i e
                    omega))
                have hBw : Below w.heap.size w wc := (HB0.out.trans (HBb5.out.mono (by omega))).trans (h1.below (by omega) (by
                  rintro i (e | e | e)
                  · omega
                  · omega
                  · have := HF.out i e; omega))
                have c3 := hl6.cell
                have c4 := hn6.cell
                have c5 := hr6.cell
                have f5 := hr6.frozen
                have hTd := Lib.hid (hTc.below (Below.refl _ wc).drew)
                have hSd := Lib.hid (hSL.below (Below.refl _ wc).drew)
                have hBd := Lib.hid (hBw.trans ((Below.refl wc.heap.size wc).drew.mono hBw.size))
                have hKd : Hid (wc.drew.heap[D]? = some (.deferred (some []))) := hRD
                have hrd := Lib.hid (show Boxed wc.drew (w.heap.size + 1) 4 (.bool false) from hr6)
                have hld := Lib.hid (show Boxed wc.drew (w2.heap.size + 1) 24 (.slice al L.length cl) from hl6)
                have hwf2 : (Lit.int .i64 2).wf = true := by decide
                clear hSL h1 hr6 hn6 hTc hBw hl6 hS6 hRD hx6 ht6 hend c1 c2 hW6
                go_wp2_with fail
                refine wp_normal ?_
                go_region_with (first
                  | (go_at_call 17; refine (all_walk pc mc vc _ L 2 _ hTd.out hSd.out hwf2).mono ?_; rintro e w7 ⟨rfl, hb7⟩; have hr7 : Boxed w7 (w.heap.size + 1) 4 (.bool false) := (hb7.block _ hrd.out.lt).trans hrd.out; have hl7 : Boxed w7 (w2.heap.size + 1) 24 (.slice al L.length cl) := (hb7.block _ hld.out.lt).trans hld.out; have c7 := Boxed.cell hl7; have f7 := Boxed.frozen hr7; have d7 := Boxed.cell hr7; have H7 := Lib.hid hb7; have HR7 := Lib.hid hr7; clear hr7 hl7 hb7)
                  | (go_at_call 18; refine (len_any pc mc vc L _ (hTd.out.below H7.out)).mono ?_; rintro e w8 ⟨rfl, rfl⟩))
                all_goals
                  clear d7 c7 hTd hSd hld
                  have hbx := Lib.hid (HR7.out.set (.bool true))
                  have hBx := Lib.hid ((hBd.out.trans (H7.out.mono hBd.out.size)).setCell (p := ⟨w.heap.size + 1, 0, none⟩) (by simp) (.bool true))
                  have hDx := Lib.hid ((Below.heap_setCell w7 ⟨w.heap.size + 1, 0, none⟩ (.bool true) D (by simp; omega)).trans ((H7.out.block D (Array.getElem?_eq_some_iff.1 hKd.out).1).trans hKd.out))
                  have hwD : w.heap.size ≤ D := by omega
                  clear HR7 H7
                  go_wp2_with fail
                  exact leave_box rfl rfl hbx.out hDx.out hBx.out hwD
end Go.Proofs.Ytdogfkjdoldpiaa
