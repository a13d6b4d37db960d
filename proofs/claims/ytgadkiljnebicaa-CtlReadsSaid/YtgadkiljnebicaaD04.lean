/- Several texts in one. -/
import Derived.Test.YtgadkiljnebicaaD03
import Derived.Test.YtgadkiljnebicaaD02
import Derived.Deep.QuietTactic
import Derived.BigQuiet
namespace Go.Proofs.Ytgadkiljnebicaa
open Go.Lib (hid)
open Go.RowKit Go.Maps
set_option maxRecDepth 100000
set_option maxHeartbeats 400000 in
theorem tname_in (p m : Nat) (v : Value) (l : List ByteArray) (n : Nat) (w : World) (h : Tab w p m v l) (hn : n < l.length) :
  Calls Try.prog 61 #[.pointer (some ⟨p,0,none⟩),.int .i64 n] w (RW w (.tuple #[.string l[n],.int .i64 0])) := by
 obtain ⟨c0,c1,f0,f1⟩ := h.cells
 have hlen := h.len
 obtain ⟨a,c,rfl,hm,hc⟩ := h.strs
 obtain ⟨b,off,rfl,hcell⟩ := hc (by omega)
 have hck := hcell n hn
 have hg : ¬ ((n : Int) < 0) := by omega
 clear h hcell hc
 go_enter Try.func61,Try.ntmps61
 go_wp2
 go_ret2
 exact ⟨rfl,rfl⟩
def TPutPost (W : World) (p m : Nat) (v : Value) (l : List ByteArray) (s : ByteArray) (e : Ending) (w' : World) : Prop :=
 ∃ v',e = .returned (.tuple #[.int .i64 (putL l s).2.1,.int .i64 (putL l s).2.2]) ∧ Tab w' p m v' (putL l s).1 ∧ Turn (tabIn p m v) W w' ∧ (v'.ownBlock = v.ownBlock ∨ ∀ b,v'.ownBlock = some b → W.heap.size ≤ b)
set_option maxHeartbeats 400000 in
theorem tput_bad (p m : Nat) (v : Value) (l : List ByteArray) (s : ByteArray) (w : World) (h : Tab w p m v l) (hs : s.size ≤ maxLen) (hn : nameB s = false) :
  Calls Try.prog 58 #[.pointer (some ⟨p,0,none⟩),.string s] w (TPutPost w p m v l s) := by
 have hfin : putL l s = (l,0,30) := by simp [putL,hn]
 have HF := hid hfin
 clear hfin
 go_enter Try.func58,Try.ntmps58
 go_wp2_with fail
 refine (right_any s w hs).mono ?_
 rintro e w1 ⟨rfl,hb1⟩
 rw [hn]
 go_wp2_with fail
 go_ret2
 exact ⟨v,by rw [HF.out]; rfl,by rw [HF.out]; exact h.below hb1,.of_below hb1,.inl rfl⟩
set_option maxHeartbeats 400000 in
theorem tput_there (p m : Nat) (v : Value) (l : List ByteArray) (s : ByteArray) (i : Nat) (w : World) (h : Tab w p m v l) (hs : s.size ≤ maxLen) (hn : nameB s = true) (hp : pos l s = some i) :
  Calls Try.prog 58 #[.pointer (some ⟨p,0,none⟩),.string s] w (TPutPost w p m v l s) := by
 have hfin : putL l s = (l,i,0) := by simp [putL,hn,hp]
 have HF := hid hfin
 have HK : Hid (keyOf Try.prog 9 (.string s) = some (key s)) := Go.WideMaps.keyOf_string_mk Try.underlying9 hs
 have HA := hid (at_mapOf h.nd s)
 have hH := has_mapOf l s
 rw [hp] at hH
 have HH := hid hH
 have HP := hid hp
 clear hfin hH hp
 go_enter Try.func58,Try.ntmps58
 go_wp2_with fail
 refine (right_any s w hs).mono ?_
 rintro e w1 ⟨rfl,hb1⟩
 rw [hn]
 have h1 := h.below hb1
 obtain ⟨c0,c1,f0,f1⟩ := h1.cells
 have HM := hid h1.map
 have H1 := hid h1
 clear h h1
 go_wp2_with (at_lookup; refine wpList_lookup_own_ok_int _ rfl _ _ 95 rfl 9 3 .i64 lawS Try.underlying95 Try.underlying3 (zeroI _) m _ _ rfl HM.out _ _ rfl HK.out ?_; intro cc hat hwc; rw [HH.out]; have HC := hid hat; clear hat hwc)
 go_ret2
 have e1 := HA.out.symm.trans HC.out
 rw [HP.out] at e1
 simp only [num,DataW.lit.injEq,Lit.int.injEq,true_and,Option.getD_some] at e1
 exact ⟨v,by rw [HF.out,← e1]; rfl,by rw [HF.out]; exact H1.out,.of_below hb1,.inl rfl⟩
set_option maxHeartbeats 400000 in
theorem tput_full (p m : Nat) (v : Value) (l : List ByteArray) (s : ByteArray) (w : World) (h : Tab w p m v l) (hs : s.size ≤ maxLen) (hn : nameB s = true) (hp : pos l s = none) (h4 : l.length = 4096) :
  Calls Try.prog 58 #[.pointer (some ⟨p,0,none⟩),.string s] w (TPutPost w p m v l s) := by
 have hfin : putL l s = (l,0,31) := by simp [putL,hn,hp,h4]
 have HF := hid hfin
 have HK : Hid (keyOf Try.prog 9 (.string s) = some (key s)) := Go.WideMaps.keyOf_string_mk Try.underlying9 hs
 have hH := has_mapOf l s
 rw [hp] at hH
 have HH := hid hH
 have hge : (4096 : Int) ≤ (l.length : Int) := by omega
 clear hfin hH hp h4
 go_enter Try.func58,Try.ntmps58
 go_wp2_with fail
 refine (right_any s w hs).mono ?_
 rintro e w1 ⟨rfl,hb1⟩
 rw [hn]
 have h1 := h.below hb1
 obtain ⟨c0,c1,f0,f1⟩ := h1.cells
 have HM := hid h1.map
 have H1 := hid h1
 obtain ⟨a,c,rfl⟩ := row_slice h1.row
 clear h h1
 go_wp2_with (at_lookup; refine wpList_lookup_own_ok_int _ rfl _ _ 95 rfl 9 3 .i64 lawS Try.underlying95 Try.underlying3 (zeroI _) m _ _ rfl HM.out _ _ rfl HK.out ?_; intro cc hat hwc; rw [HH.out]; have HC := hid hat; clear hat hwc)
 go_ret2
 exact ⟨_,by rw [HF.out]; rfl,by rw [HF.out]; exact H1.out,.of_below hb1,.inl rfl⟩
theorem nodup_snoc {l : List ByteArray} {s : ByteArray} (h : l.Nodup) (hp : pos l s = none) : (l ++ [s]).Nodup := by
  rw [List.nodup_append]
  refine ⟨h,by simp,fun a ha b hb => ?_⟩
  rw [List.mem_singleton] at hb
  subst hb
  exact fun e => pos_none_iff.1 hp (e ▸ ha)
theorem Tab.mapped {W W' : World} {p m : Nat} {v : Value} {l : List ByteArray} (h : Tab W p m v l) (hg : W.grownBy W' (some m)) :
    W'.cell? ⟨p,1,none⟩ = some v ∧ W'.frozen? ⟨p,1,none⟩ = false ∧ W'.ownsRow 0 9 1 v l.length (l.map .string) ∧ W'.heap[p]? = W.heap[p]? := by
  have k0 := hg.block p h.lt.1 (by simp; exact h.apart.1)
  obtain ⟨c0,c1,f0,f1⟩ := h.cells
  exact ⟨(World.cell?_of_block (w := W) (a := ⟨p,1,none⟩) k0).trans c1,(World.frozen?_of_block (w := W) (a := ⟨p,1,none⟩) k0).trans f1,
    row_same h.row (fun b e hb => hg.block b hb (by rw [← e]; exact fun x => h.apart.2.2 x)),k0⟩
theorem kept_cell {w w' : World} {row : Option Nat} {b o : Nat} {u : Value} (o' : Obj) (h : w.cell? ⟨b,o,none⟩ = some u) (hf : w.frozen? ⟨b,o,none⟩ = false) (hg : (w.alloc o').grownBy w' row) (hr : row ≠ some b) :
    w'.cell? ⟨b,o,none⟩ = some u ∧ w'.frozen? ⟨b,o,none⟩ = false := by
  have hb := cell_lt h
  have k := (hg.block b (by simp; omega) (fun e => hr e.symm)).trans (Below.heap_alloc w o' b hb)
  exact ⟨(World.cell?_of_block (w := w) (a := ⟨b,o,none⟩) k).trans h,(World.frozen?_of_block (w := w) (a := ⟨b,o,none⟩) k).trans hf⟩
theorem heap_setCell_at {w : World} {b o : Nat} {cs : Array Value} {t : TypeId} {fr : Nat × Nat} {u : Value} (h : w.heap[b]? = some (.cells cs t fr)) : (w.setCell ⟨b,o,none⟩ u).heap[b]? = some (.cells (cs.setIfInBounds o u) t fr) := by
  simp [World.setCell,Array.getElem?_modify,h]
theorem put_close {w1 w2 w4 : World} {p m : Nat} {v v4 : Value} {l : List ByteArray} {s : ByteArray} (h : Tab w1 p m v l) (hn : nameB s = true) (hp : pos l s = none) (h4 : l.length < 4096)
    (hm2 : w2.ownsMap Try.prog 9 (plainElem (H := Unit) Try.prog 3) m (l.length + 1) ((mapOf l).put (key s) (num l.length))) (hg2 : w1.grownBy w2 (some m))
    (ho4 : w4.ownsRow 0 9 1 v4 (l.length + 1) (l.map .string ++ [.string s])) (o : Obj) (hg4 : (w2.alloc o).grownBy w4 v.ownBlock) (hl4 : v4.ownBlock = v.ownBlock ∨ v4.ownBlock = some (w2.alloc o).heap.size) :
    Tab (w4.setCell ⟨p,1,none⟩ v4) p m v4 (l ++ [s]) ∧ Turn (tabIn p m v) w1 (w4.setCell ⟨p,1,none⟩ v4) ∧ (v4.ownBlock = v.ownBlock ∨ ∀ b,v4.ownBlock = some b → w1.heap.size ≤ b) := by
  obtain ⟨hpm,hvp,hvm⟩ := h.apart
  obtain ⟨lp,lm,lv⟩ := h.lt
  have s2 := hg2.size
  have s4 := hg4.size
  have e4 : ∀ k,k < w2.heap.size → v.ownBlock ≠ some k → w4.heap[k]? = w2.heap[k]? := fun k hk hne =>
    (hg4.block k (by simp; omega) (fun e => hne e.symm)).trans (Below.heap_alloc w2 o k hk)
  have hv4p : v4.ownBlock ≠ some p := by
    rcases hl4 with e | e
    · rw [e]; exact hvp
    · rw [e]; simp; omega
  have hP : w4.heap[p]? = some (.cells #[.map (some m),v] 97) := (e4 p (by omega) hvp).trans ((hg2.block p lp (by simp; exact hpm)).trans h.obj)
  have hother : ∀ k,k ≠ p → (w4.setCell ⟨p,1,none⟩ v4).heap[k]? = w4.heap[k]? := fun k hk => Below.heap_setCell _ _ _ _ hk
  refine ⟨⟨?_,?_,?_,nodup_snoc h.nd hp,by simp; omega,?_⟩,?_,?_⟩
  · rw [heap_setCell_at hP]; simp
  · have e1 := (hother m (Ne.symm hpm)).trans (e4 m (by omega) hvm)
    have := map_same hm2 e1
    rw [← mapOf_snoc] at this
    simpa using this
  · have := row_same (w' := w4.setCell ⟨p,1,none⟩ v4) ho4 (fun b e hb => hother b (fun x => hv4p (x ▸ e)))
    simpa using this
  · intro x hx
    rcases List.mem_append.1 hx with hx | hx
    · exact h.nm x hx
    · rw [List.mem_singleton] at hx; subst hx; exact hn
  · have t1 : Turn (tabIn p m v) w1 w2 := (Turn.of_grownBy hg2).mono fun i _ e => by cases e; exact .inr (.inl rfl)
    have t2 : Turn (tabIn p m v) w1 w4 := (t1.trans (Turn.alloc _ w2 o)).andThen (Turn.of_grownBy hg4) fun i e => .inl (.inr (.inr e))
    exact t2.andThen (Turn.setCell w4 p 1 v4) fun i e => .inl (.inl e)
  · rcases hl4 with e | e
    · exact .inl e
    · exact .inr fun b eb => by rw [e] at eb; cases eb; simp; omega
set_option maxRecDepth 100000 in
set_option maxHeartbeats 400000 in
theorem tput_new (p m : Nat) (v : Value) (l : List ByteArray) (s : ByteArray) (w : World) (h : Tab w p m v l) (hs : s.size ≤ maxLen) (hn : nameB s = true) (hp : pos l s = none) (h4 : l.length < 4096) :
    Calls Try.prog 58 #[.pointer (some ⟨p,0,none⟩),.string s] w (TPutPost w p m v l s) := by
  have hfin : putL l s = (l ++ [s],l.length,0) := by simp [putL,hn,hp,show ¬ l.length = 4096 by omega]
  obtain ⟨i0,hi,hz0,hz1,hz2⟩ := info_parts infoString
  have HF := hid hfin
  have HK : Hid (keyOf Try.prog 9 (.string s) = some (key s)) := Go.WideMaps.keyOf_string_mk Try.underlying9 hs
  have hH := has_mapOf l s
  rw [hp] at hH
  have HH := hid hH
  have HP := hid hp
  have HN := hid hn
  have HT := hid h
  have hlt : (l.length : Int) < 4096 := by omega
  clear hfin hH hp h4
  go_enter Try.func58,Try.ntmps58
  go_wp2_with fail
  refine (right_any s w hs).mono ?_
  rintro e w1 ⟨rfl,hb1⟩
  rw [hn]
  have h1 := h.below hb1
  obtain ⟨c0,c1,f0,f1⟩ := h1.cells
  have HM := hid h1.map
  have H1 := hid h1
  obtain ⟨a,c,hv⟩ := row_slice h1.row
  have hpm := h1.apart.1
  subst hv
  clear h h1
  go_wp2_with (first
   | (at_lookup; refine wpList_lookup_own_ok_int _ rfl _ _ 95 rfl 9 3 .i64 lawS Try.underlying95 Try.underlying3 (zeroI _) m _ _ rfl HM.out _ _ rfl HK.out ?_; intro cc hat hwc; rw [HH.out]; have HC := hid hat; clear hat hwc)
   | (at_mapUpdate; refine wpList_mapUpdate_own _ rfl _ _ _ 95 rfl 9 3 lawS Try.underlying95 _ m _ _ rfl HM.out (by unfold maxLen; omega) _ _ _ rfl rfl HK.out (num l.length) [] (plainElem_int Try.underlying3 (WalkArith.wf_i64 (by omega))) ?_; intro w2 hm2 hg2; obtain ⟨c2,f2,hr2,hp2⟩ := H1.out.mapped hg2; have HM2 := hid hm2; have HG2 := hid hg2; have HR2 := hid hr2; have HP2 := hid hp2; clear hm2 hg2 hr2 hp2)
   | (at_builtin; refine wpList_app _ rfl (.tmp 46) (.tmp 48) 78 78 rfl 0 9 i0 (.string ByteArray.empty) 1 16 Try.underlying78 hi hz0 hz1 hz2 rfl (by decide) _ _ _ rfl (HR2.out.alloc _) _ 1 [.string s] rfl (src_one _ Try.underlying78 _ _ rfl) (by unfold maxLen; omega) (by omega) (Nat.zero_le _) ?_; intro a4 c4 w4 ho4 hg4 hn4 hl4; obtain ⟨c5,f5⟩ := kept_cell _ c2 f2 hg4 H1.out.apart.2.1; have HG4 := hid hg4; have HO4 := hid ho4; have HL4 := hid hl4; clear hg4 ho4 hl4 hn4))
  go_ret2
  obtain ⟨r1,r2,r3⟩ := put_close H1.out HN.out HP.out (by omega) HM2.out HG2.out HO4.out _ HG4.out HL4.out
  exact ⟨_,by rw [HF.out]; rfl,by rw [HF.out]; exact r1,(Turn.of_below hb1).trans r2,r3.imp id fun r b e => Nat.le_trans hb1.size (r b e)⟩
theorem tput_any (p m : Nat) (v : Value) (l : List ByteArray) (s : ByteArray) (w : World) (h : Tab w p m v l) (hs : s.size ≤ maxLen) :
    Calls Try.prog 58 #[.pointer (some ⟨p,0,none⟩),.string s] w (TPutPost w p m v l s) := by
  cases hn : nameB s with
  | false => exact tput_bad p m v l s w h hs hn
  | true =>
    cases hp : pos l s with
    | some i => exact tput_there p m v l s i w h hs hn hp
    | none =>
      by_cases h4 : l.length = 4096
      · exact tput_full p m v l s w h hs hn hp h4
      · exact tput_new p m v l s w h hs hn hp (by have := h.len; omega)
end Go.Proofs.Ytgadkiljnebicaa
namespace Go.Proofs.Ytgadkiljnebicaa
open Go.Lib (hid)
open Go.RowKit
set_option maxRecDepth 100000
abbrev thrown (c : Int) : List PanicEntry := [{ v := .iface 62 (.agg #[.int .i64 c]),recovered := false }]
theorem fail_any (r : Value) (c : Int) (w : World) : Calls Try.prog 24 #[r,.int .i64 c] w fun e w' => e = .panicked (thrown c) ∧ w' = w := by
 go_enter Try.func24,Try.ntmps24
 go_wp2_with fail
 exact ⟨rfl,rfl,rfl⟩
theorem must_yes (r : Value) (w : World) : Calls Try.prog 41 #[r,.bool true] w fun e w' => e = .returned (.tuple #[]) ∧ w' = w := by
 go_enter Try.func41,Try.ntmps41
 go_wp2_with fail
 go_end0
 exact ⟨rfl,rfl⟩
theorem must_no (r : Value) (w : World) : Calls Try.prog 41 #[r,.bool false] w fun e w' => e = .panicked (thrown 73) ∧ w' = w := by
 go_enter Try.func41,Try.ntmps41
 go_wp2_with fail
 refine (fail_any _ 73 _).mono ?_
 rintro e w' ⟨rfl,rfl⟩
 go_wp2_with fail
 exact ⟨rfl,rfl,rfl⟩
abbrev cellB (c : UInt8) : Value := .int .u8 (c.toNat : Int)
def foot (R p m : Nat) (v : Value) (i : Nat) : Prop := i = R ∨ tabIn p m v i
structure RdAt (W : World) (R p m : Nat) (v bv : Value) (bs : List UInt8) (s : St) : Prop where
 cells : W.heap[R]? = some (.cells #[bv,.int .i64 s.i,.int .i64 s.n,.pointer (some ⟨p,0,none⟩)] 68 (0,0))
 tab : Tab W p m v s.names
 src : Sl W bv (bs.map cellB)
 len : bs.length ≤ 131072
 ile : s.i ≤ bs.length
 nle : s.n ≤ 4097
 alone : ¬ tabIn p m v R
 apart : ∀ b,bv.ownBlock = some b → 0 < bs.length → ¬ foot R p m v b
theorem RdAt.lt {W : World} {R p m : Nat} {v bv : Value} {bs : List UInt8} {s : St} (h : RdAt W R p m v bv bs s) : ∀ i,foot R p m v i → i < W.heap.size := by
 rintro i (rfl | rfl | rfl | e)
 ·exact (Array.getElem?_eq_some_iff.1 h.cells).1
 ·exact h.tab.lt.1
 ·exact h.tab.lt.2.1
 ·exact h.tab.lt.2.2 i e
theorem Sl.same' {W W' : World} {v : Value} {l : List Value} (h : Sl W v l) (hs : ∀ b,v.ownBlock = some b → 0 < l.length → b < W.heap.size → W'.heap[b]? = W.heap[b]?) : Sl W' v l := by
 obtain ⟨a,c,rfl,hm,hc⟩ := h
 refine ⟨a,c,rfl,hm,fun hp => ?_⟩
 obtain ⟨b,off,rfl,hcell⟩ := hc hp
 refine ⟨b,off,rfl,fun j hj => ?_⟩
 rw [← hcell j hj]
 exact World.cell?_of_block (w := W) (hs b rfl hp (cell_lt (hcell j hj)))
theorem RdAt.blt {W : World} {R p m : Nat} {v bv : Value} {bs : List UInt8} {s : St} (h : RdAt W R p m v bv bs s) : ∀ i,bv.ownBlock = some i → 0 < bs.length → i < W.heap.size := by
 intro i e hp
 obtain ⟨a,c,rfl,hm,hc⟩ := h.src
 obtain ⟨b,off,rfl,hcell⟩ := hc (by simpa using hp)
 cases e
 exact cell_lt (hcell 0 (by simpa using hp))
theorem RdAt.keep {W W' : World} {R p m : Nat} {v bv : Value} {bs : List UInt8} {s : St} (h : RdAt W R p m v bv bs s) (hs : ∀ i,foot R p m v i ∨ (bv.ownBlock = some i ∧ 0 < bs.length) → i < W.heap.size → W'.heap[i]? = W.heap[i]?) : RdAt W' R p m v bv bs s :=
 ⟨(hs R (.inl (.inl rfl)) (h.lt R (.inl rfl))).trans h.cells,h.tab.same fun i hi hl => hs i (.inl (.inr hi)) hl,h.src.same' fun b e hp hl => hs b (.inr ⟨e,by simpa using hp⟩) hl,h.len,h.ile,h.nle,h.alone,h.apart⟩
theorem RdAt.below {W W' : World} {R p m : Nat} {v bv : Value} {bs : List UInt8} {s : St} (h : RdAt W R p m v bv bs s) (hb : Below W.heap.size W W') : RdAt W' R p m v bv bs s := h.keep fun i _ hi => hb.block i hi
theorem RdAt.drewN {W : World} {R p m : Nat} {v bv : Value} {bs : List UInt8} {s : St} (h : RdAt W R p m v bv bs s) (q : Nat) : RdAt (W.drewN q) R p m v bv bs s := h.keep fun _ _ _ => rfl
theorem RdAt.c0 {W : World} {R p m : Nat} {v bv : Value} {bs : List UInt8} {s : St} (h : RdAt W R p m v bv bs s) : W.cell? ⟨R,0,none⟩ = some bv := by simp [World.cell?,h.cells]
theorem RdAt.c1 {W : World} {R p m : Nat} {v bv : Value} {bs : List UInt8} {s : St} (h : RdAt W R p m v bv bs s) : W.cell? ⟨R,1,none⟩ = some (.int .i64 s.i) := by simp [World.cell?,h.cells]
theorem RdAt.c2 {W : World} {R p m : Nat} {v bv : Value} {bs : List UInt8} {s : St} (h : RdAt W R p m v bv bs s) : W.cell? ⟨R,2,none⟩ = some (.int .i64 s.n) := by simp [World.cell?,h.cells]
theorem RdAt.c3 {W : World} {R p m : Nat} {v bv : Value} {bs : List UInt8} {s : St} (h : RdAt W R p m v bv bs s) : W.cell? ⟨R,3,none⟩ = some (.pointer (some ⟨p,0,none⟩)) := by simp [World.cell?,h.cells]
theorem RdAt.fz {W : World} {R p m : Nat} {v bv : Value} {bs : List UInt8} {s : St} (h : RdAt W R p m v bv bs s) (o : Nat) : W.frozen? ⟨R,o,none⟩ = false := by simp [World.frozen?,h.cells]
theorem RdAt.store {W : World} {R p m o : Nat} {v bv u : Value} {bs : List UInt8} {s s' : St} (h : RdAt W R p m v bv bs s) (hc : #[bv,.int .i64 s.i,.int .i64 s.n,.pointer (some ⟨p,0,none⟩)].setIfInBounds o u = #[bv,.int .i64 s'.i,.int .i64 s'.n,.pointer (some ⟨p,0,none⟩)])
  (hn : s'.names = s.names) (hi : s'.i ≤ bs.length) (hk : s'.n ≤ 4097) : RdAt (W.setCell ⟨R,o,none⟩ u) R p m v bv bs s' := by
 have hb : ∀ i,¬ i = R → (W.setCell ⟨R,o,none⟩ u).heap[i]? = W.heap[i]? := fun i hi => Below.heap_setCell _ _ _ _ hi
 refine ⟨?_,?_,h.src.same' fun b e hp _ => hb b fun k => h.apart b e (by simpa using hp) (.inl k),h.len,hi,hk,h.alone,h.apart⟩
 ·rw [heap_setCell_at h.cells,hc]
 ·rw [hn]
  exact h.tab.same fun i hi _ => hb i fun k => h.alone (k ▸ hi)
theorem RdAt.at {W : World} {R p m : Nat} {v bv : Value} {bs : List UInt8} {s : St} (h : RdAt W R p m v bv bs s) (hi : s.i < bs.length) : ∃ b off c,bv = .slice (some ⟨b,off,none⟩) bs.length c ∧ W.cell? ⟨b,off + s.i,none⟩ = some (cellB bs[s.i]) ∧ ¬ b = R := by
 obtain ⟨a,c,hbv,hl,hc⟩ := h.src
 obtain ⟨b,off,ha,hcell⟩ := hc (by simpa using Nat.lt_of_le_of_lt (Nat.zero_le _) hi)
 subst ha
 have hx := hcell s.i (by simpa using hi)
 rw [List.getElem_map] at hx
 refine ⟨b,off,c,by rw [hbv]; simp,hx,fun e => h.apart b (by rw [hbv]; rfl) (Nat.lt_of_le_of_lt (Nat.zero_le _) hi) (.inl e)⟩
theorem RdAt.put {W W' : World} {R p m : Nat} {v v' bv : Value} {bs : List UInt8} {s : St} {l : List ByteArray} (h : RdAt W R p m v bv bs s) (ht : Tab W' p m v' l) (hT : Turn (tabIn p m v) W W') (hv : v'.ownBlock = v.ownBlock ∨ ∀ b,v'.ownBlock = some b → W.heap.size ≤ b) : RdAt W' R p m v' bv bs { s with names := l } := by
 refine ⟨(hT.block R (h.lt R (.inl rfl)) h.alone).trans h.cells,ht,h.src.same' fun b e hp hl => hT.block b hl fun k => h.apart b e (by simpa using hp) (.inr k),h.len,h.ile,h.nle,?_,?_⟩
 ·rintro (e | e | e)
  ·exact h.alone (.inl e)
  ·exact h.alone (.inr (.inl e))
  ·rcases hv with hv | hv
   ·exact h.alone (.inr (.inr (hv.symm.trans e)))
   ·have := hv R e
    have := h.lt R (.inl rfl)
    omega
 ·intro b e hp k
  rcases k with k | k | k | k
  ·exact h.apart b e hp (.inl k)
  ·exact h.apart b e hp (.inr (.inl k))
  ·exact h.apart b e hp (.inr (.inr (.inl k)))
  ·rcases hv with hv | hv
   ·exact h.apart b e hp (.inr (.inr (.inr (hv.symm.trans k))))
   ·have := hv b k
    have := h.blt b e hp
    omega
theorem Turn.drewN {S : Nat → Prop} {a b : World} (h : Turn S a b) (q : Nat) : Turn S a (b.drewN q) := ⟨h.os,h.tape,h.output,h.size,h.block⟩
def P1 {α : Type} (R p m : Nat) (v bv : Value) (bs : List UInt8) (W : World) (res : α → Value) (r : Except Int (α × St)) (e : Ending) (w' : World) : Prop :=
 match r with
 | .ok (a,s') => e = .returned (res a) ∧ RdAt w' R p m v bv bs s' ∧ Turn (fun i => i = R) W w'
 | .error x => e = .panicked (thrown x) ∧ Turn (fun i => i = R) W w'
theorem cell_set_ne (w : World) (b o b' o' : Nat) (v : Value) (h : ¬ b' = b) : (w.setCell ⟨b,o,none⟩ v).cell? ⟨b',o',none⟩ = w.cell? ⟨b',o',none⟩ := by
 apply World.cell?_setCell_other
 intro e
 simp at e
theorem one_yes (R p m : Nat) (v bv : Value) (bs : List UInt8) (s : St) (w : World) (h : RdAt w R p m v bv bs s) (hi : s.i < bs.length) :
  Calls Try.prog 23 #[.pointer (some ⟨R,0,none⟩)] w fun e w' => e = .returned (cellB bs[s.i]) ∧ RdAt w' R p m v bv bs { s with i := s.i + 1 } ∧ Turn (fun i => i = R) w w' := by
 have H := hid h
 obtain ⟨b,off,c,rfl,hx,hne⟩ := h.at hi
 have r0 := h.c0
 have r1 := h.c1
 have rf := h.fz
 have hlen := h.len
 clear h
 have hd : ¬ (s.i : Int) = (bs.length : Int) := by omega
 have hd' : decide ((s.i : Int) = (bs.length : Int)) = false := decide_eq_false hd
 have hi0 : (0 : Int) ≤ (s.i : Int) := by omega
 have hi1 : (s.i : Int) < (bs.length : Int) := by omega
 go_enter Try.func23,Try.ntmps23
 go_wp2_with fail
 go_quiet (fail)
 go_wp2_with fail
 have H1 : Hid (RdAt ((w.drewN nq).setCell ⟨R,1,none⟩ (.int .i64 ((s.i : Int) + 1))) R p m v (.slice (some ⟨b,off,none⟩) bs.length c) bs { s with i := s.i + 1 }) := (H.out.drewN nq).store (by simp) rfl (show s.i + 1 ≤ bs.length by omega) H.out.nle
 have HT := hid (((Turn.refl (fun i => i = R) w).drewN nq).trans (Turn.setCell (w.drewN nq) R 1 (.int .i64 ((s.i : Int) + 1))))
 have x1 : ((w.drewN nq).setCell ⟨R,1,none⟩ (.int .i64 ((s.i : Int) + 1))).cell? ⟨b,off + s.i,none⟩ = some (cellB bs[s.i]) := (cell_set_ne (w.drewN nq) _ _ _ _ _ hne).trans hx
 have r0 := H1.out.c0
 have r1 : ((w.drewN nq).setCell ⟨R,1,none⟩ (.int .i64 ((s.i : Int) + 1))).cell? ⟨R,1,none⟩ = some (.int .i64 ((s.i : Int) + 1)) := H1.out.c1
 clear hx rf hd hd' H
 generalize (w.drewN nq).setCell ⟨R,1,none⟩ (.int .i64 ((s.i : Int) + 1)) = w1 at *
 have he : (s.i : Int) + 1 - 1 = s.i := by omega
 go_quiet (fail)
 go_wp2_with fail
 go_ret
 exact ⟨rfl,H1.out.drewN _,HT.out.drewN _⟩
theorem one_no (R p m : Nat) (v bv : Value) (bs : List UInt8) (s : St) (w : World) (h : RdAt w R p m v bv bs s) (hi : ¬ s.i < bs.length) :
  Calls Try.prog 23 #[.pointer (some ⟨R,0,none⟩)] w fun e w' => e = .panicked (thrown 72) ∧ Turn (fun i => i = R) w w' := by
 obtain ⟨a,c,rfl,_,_⟩ := h.src
 have r0 := h.c0
 have r1 := h.c1
 have hlen := h.len
 have hd : (s.i : Int) = (bs.length : Int) := by have := h.ile; omega
 rw [hd] at r1
 simp only [List.length_map] at r0
 clear h hd
 go_enter Try.func23,Try.ntmps23
 go_wp2_with fail
 go_quiet (fail)
 go_wp2_with fail
 refine (fail_any _ 72 _).mono ?_
 rintro e w' ⟨rfl,rfl⟩
 go_wp2_with fail
 exact ⟨rfl,rfl,(Turn.refl _ w).drewN _⟩
theorem one_any (R p m : Nat) (v bv : Value) (bs : List UInt8) (s : St) (w : World) (h : RdAt w R p m v bv bs s) :
  Calls Try.prog 23 #[.pointer (some ⟨R,0,none⟩)] w (P1 R p m v bv bs w (fun c => .int .u8 (c : Nat)) (oneP bs s)) := by
 by_cases hi : s.i < bs.length
 ·have e : oneP bs s = .ok (bs[s.i].toNat,{ s with i := s.i + 1 }) := by unfold oneP; rw [List.getElem?_eq_getElem hi]
  rw [e]
  exact one_yes R p m v bv bs s w h hi
 ·have e : oneP bs s = .error 72 := by unfold oneP; rw [List.getElem?_eq_none (by omega)]
  rw [e]
  exact one_no R p m v bv bs s w h hi
end Go.Proofs.Ytgadkiljnebicaa
