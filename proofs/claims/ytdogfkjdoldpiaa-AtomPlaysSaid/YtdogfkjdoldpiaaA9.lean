/- The table of names in memory: All, and the iterator that it hands back. -/
import Derived.Test.YtdogfkjdoldpiaaA8
import Derived.Test.YtdogfkjdoldpiaaL2
namespace Go.Proofs.Ytdogfkjdoldpiaa
open Go.RowKit Go.Maps Go.Shelf
attribute [local go_sem] Oper.semAt_some

/-- BLOCK b IS A BOX THAT HOLDS A SLICE OF THE NAMES l -/
structure Told (W : World) (b : Nat) (v : Value) (l : List ByteArray) : Prop where
  box : W.cell? ⟨b, 0, none⟩ = some v
  strs : Strs W v l
  vlt : ∀ g, v.ownBlock = some g → g < W.heap.size
/-- the box and its slice lie as they lay -/
def TKeep (b : Nat) (v : Value) (W W' : World) : Prop := W.heap.size ≤ W'.heap.size ∧ ∀ i, (i = b ∨ v.ownBlock = some i) → i < W.heap.size → W'.heap[i]? = W.heap[i]?
theorem TKeep.trans {b : Nat} {v : Value} {A B C : World} (h : TKeep b v A B) (k : TKeep b v B C) : TKeep b v A C :=
  ⟨Nat.le_trans h.1 k.1, fun i hi hl => (k.2 i hi (Nat.lt_of_lt_of_le hl h.1)).trans (h.2 i hi hl)⟩
theorem TKeep.of_below {b : Nat} {v : Value} {A B : World} (h : Below A.heap.size A B) : TKeep b v A B := ⟨h.size, fun i _ hl => h.block i hl⟩
theorem TKeep.of_turn {b : Nat} {v : Value} {S : Nat → Prop} {A B : World} (h : Turn S A B) (hS : ∀ i, (i = b ∨ v.ownBlock = some i) → ¬ S i) : TKeep b v A B := ⟨h.size, fun i hi hl => h.block i hl (hS i hi)⟩
theorem Told.lt {W : World} {b : Nat} {v : Value} {l : List ByteArray} (h : Told W b v l) : b < W.heap.size := cell_lt h.box
theorem Told.keep {W W' : World} {b : Nat} {v : Value} {l : List ByteArray} (h : Told W b v l) (hk : TKeep b v W W') : Told W' b v l :=
  ⟨(World.cell?_of_block (w := W) (hk.2 b (.inl rfl) h.lt)).trans h.box, h.strs.same (fun g e hg => hk.2 g (.inr e) hg), fun g e => Nat.lt_of_lt_of_le (h.vlt g e) hk.1⟩
theorem TKeep.putObj {b : Nat} {v : Value} {w : World} {l' : List ByteArray} (hT : Told w b v l') (W : World) (l : Nat) (o o' : Obj) (hl : w.heap.size ≤ l) (_ : W.heap[l]? = some o) (_ : o.isCells = false) (_ : o.isWalk = false) : TKeep b v W (W.putObj l o') :=
  ⟨by simp, fun i hi _ => World.putObj_heap_other (by rcases hi with rfl | e; have := hT.lt; omega; have := hT.vlt i e; omega)⟩
def AllPost (W : World) (l : List ByteArray) (e : Ending) (w' : World) : Prop :=
  ∃ v, e = .returned (.func (.func 23) #[] #[.pointer (some ⟨W.heap.size, 0, none⟩)]) ∧ Told w' W.heap.size v l ∧ Below W.heap.size W w' ∧ (∀ g, v.ownBlock = some g → W.heap.size ≤ g)
set_option maxHeartbeats 400000 in
theorem all_nil (w : World) : Calls Try.prog 15 #[.pointer none] w (AllPost w []) := by
  go_enter Try.func15, Try.ntmps15
  go_wp2
  go_ret
  refine ⟨.slice none 0 0, rfl, ⟨by simp, Strs.nil _, fun g e => by cases e⟩, (Below.refl _ w).alloc (Nat.le_refl _) _, fun g e => by cases e⟩
theorem box_kept {w w4 : World} {u : Value} {t : TypeId} (hg : (w.alloc (.cells #[u] t)).drew.grownBy w4 none) : w4.cell? ⟨w.heap.size, 0, none⟩ = some u ∧ w4.frozen? ⟨w.heap.size, 0, none⟩ = false := by
  have k : w4.heap[w.heap.size]? = some (.cells #[u] t) := (hg.block _ (by simp) (by simp)).trans (heap_new w _)
  constructor <;> simp [World.cell?, World.frozen?, k]
set_option maxRecDepth 100000 in
set_option maxHeartbeats 2000000 in
theorem all_any (p m : Nat) (v : Value) (l : List ByteArray) (w : World) (h : Tab w p m v l) :
    Calls Try.prog 15 #[.pointer (some ⟨p, 0, none⟩)] w (AllPost w l) := by
  obtain ⟨i0, hi, hz0, hz1, hz2⟩ := info_parts infoString
  obtain ⟨c0, c1, f0, f1⟩ := h.cells
  have HT := Lib.hid h
  have lp := h.lt.1
  have HL1 : Hid (0 + l.length ≤ maxLen) := by have := h.len; unfold maxLen Hid; omega
  have HL2 : Hid ((0 + l.length) * 16 ≤ 140737488355328) := by have := h.len; unfold Hid; omega
  clear h
  go_enter Try.func15, Try.ntmps15
  go_wp2_with fail
  have c1' : (w.alloc (.cells #[.slice none 0 0] 24)).cell? ⟨p, 1, none⟩ = some v := (World.cell?_alloc_lt w _ ⟨p, 1, none⟩ lp).trans c1
  go_region_law (first | (refine step_app (by rfl) _ _ _ _ (by rfl) 0 9 i0 (.string ByteArray.empty) 1 16 Try.underlying24 hi hz0 hz1 hz2 rfl (by decide) (.slice none 0 0) 0 [] (by rfl) (World.ownsRow_nil _ _ _ _) v l.length (l.map .string) (by rfl) ((HT.out.strs.alloc _).below (Below.refl _ _).drew).src HL1.out HL2.out (Nat.zero_le _) ?_; intro a4 c4 w4 ho4 hg4 hl4; obtain ⟨c5, f5⟩ := box_kept hg4))
  all_goals
    have HO := Lib.hid ho4
    have HG := Lib.hid hg4
    have HL := Lib.hid hl4
    clear ho4 hg4 hl4
    go_wp2
    go_ret
    have ho := HO.out
    rw [Nat.zero_add, List.nil_append] at ho
    have hl := HL.out
    rw [Nat.zero_add] at hl
    have s4 := HG.out.size
    simp at s4
    have hb4 : Below w.heap.size w (w4.setCell ⟨w.heap.size, 0, none⟩ (.slice a4 l.length c4)) :=
      ((((Below.refl _ w).alloc (Nat.le_refl _) _).drew.trans ((grown_none_below HG.out).mono (by simp)))).setCell (Nat.le_refl _) _
    have hg : ∀ g, (Value.slice a4 l.length c4).ownBlock = some g → w.heap.size + 1 = g := fun g e => by
      rcases hl with h | h
      · rw [h] at e; cases e
      · rw [h] at e; cases e; simp
    refine ⟨.slice a4 l.length c4, rfl, ⟨World.cell?_setCell_same' _ _ _ (by rw [c5]; rfl), ?_, ?_⟩, hb4, fun g e => by have := hg g e; omega⟩
    · exact Strs.of_owns (row_same ho (fun g e _ => Below.heap_setCell _ _ _ _ (by have := hg g e; simp; omega))) (by have := HT.out.len; omega)
    · intro g e
      have e1 := hg g e
      have : (w4.setCell ⟨w.heap.size, 0, none⟩ (.slice a4 l.length c4)).heap.size = w4.heap.size := by simp [World.setCell]
      rcases ho.2 with ⟨h1, _⟩ | ⟨g', _, _, h1, _, hg', _⟩
      · rw [h1] at e; cases e
      · rw [h1] at e; cases e; rw [this]; exact (Array.getElem?_eq_some_iff.1 hg').1

/-- the numbers with their names, from k on -/
def itsFrom : Nat → List ByteArray → List (Nat × ByteArray)
  | _, [] => []
  | k, s :: l => (k, s) :: itsFrom (k + 1) l
def its (l : List ByteArray) : List (Nat × ByteArray) := itsFrom 0 l
theorem itsFrom_length : ∀ (k : Nat) (l : List ByteArray), (itsFrom k l).length = l.length
  | _, [] => rfl
  | k, _ :: l => by simp [itsFrom, itsFrom_length (k + 1) l]
theorem itsFrom_get : ∀ (k : Nat) (l : List ByteArray) (i : Nat) (h : i < l.length), (itsFrom k l)[i]? = some (k + i, l[i])
  | k, [], i, h => by simp at h
  | k, s :: l, 0, _ => by simp [itsFrom]
  | k, s :: l, i + 1, h => by
    simp only [itsFrom, List.getElem?_cons_succ, List.getElem_cons_succ]
    rw [itsFrom_get (k + 1) l i (by simpa using h)]
    congr 2
    omega
theorem its_length (l : List ByteArray) : (its l).length = l.length := itsFrom_length 0 l
theorem its_get (l : List ByteArray) (i : Nat) (h : i < l.length) : (its l)[i]? = some (i, l[i]) := by
  have := itsFrom_get 0 l i h
  rw [Nat.zero_add] at this
  exact this
theorem its_take (l : List ByteArray) (i : Nat) (h : i < l.length) : (its l).take (i + 1) = (its l).take i ++ [(i, l[i])] := by
  have hi : i < (its l).length := by rw [its_length]; exact h
  rw [List.take_succ_eq_append_getElem hi]
  congr 2
  have := its_get l i h
  rw [List.getElem?_eq_getElem hi] at this
  exact Option.some.inj this
abbrev encIt (x : Nat × ByteArray) : Array Value := #[.int .i64 x.1, .string x.2]

def iterRel (b : Nat) (v : Value) (l : List ByteArray) (J : List (Nat × ByteArray) → World → Prop) (i : Value) (wr : World) : Prop := ∃ k : Nat, k ≤ l.length ∧ i = .int .i64 k ∧ J ((its l).take k) wr ∧ Told wr b v l
set_option maxRecDepth 100000 in
set_option maxHeartbeats 1000000 in
theorem iter_in (F : Fence) (n : Nat) (hF : F.fn 23) (hro : F.round = none) (hn : 1 ≤ n) (lr b : Nat) (v : Value) (l : List ByteArray) (J Jx : List (Nat × ByteArray) → World → Prop)
    (hY : ∀ pre x W, J pre W → pre.length < l.length → YieldAt F (n - 1) Try.prog lr (encIt x) W fun e W' =>
      (e = .returned (.bool true) ∧ J (pre ++ [x]) W' ∧ TKeep b v W W') ∨ (e = .returned (.bool false) ∧ Jx (pre ++ [x]) W'))
    (W : World) (hT : Told W b v l) (h0 : J [] W) :
    CallsIn F n Try.prog 23 #[.func (.yield lr) #[] #[], .pointer (some ⟨b, 0, none⟩)] W fun e W' => (∃ v, e = .returned v) ∧
      ((∃ ys, ys = its l ∧ J ys W') ∨ (∃ pre, pre <+: its l ∧ Jx pre W')) := by
  refine callsIn_of_wp Try.func23 rfl hF ?_ hro
  simp only [Try.ntmps23, List.size_toArray, List.length_cons, List.length_nil, Nat.reduceAdd, Nat.reduceSub, Array.replicate_succ, Array.replicate_zero, List.push_toArray, List.append_toArray, List.nil_append, List.cons_append]
  have hbox := hT.box
  have HT := Lib.hid hT
  obtain ⟨a, c, hv, hm, _⟩ := hT.strs
  subst hv
  clear hT
  have HY := Lib.hid hY
  clear hY
  gi_wp2
  gi_loopw [7] (fun i wr => iterRel b (.slice a l.length c) l J i wr) (fun i _ => l.length - (intOf i).toNat)
  case atStart => exact ⟨0, Nat.zero_le _, rfl, h0, HT.out⟩
  case round =>
    obtain ⟨k, hk, rfl, hJ, hTr⟩ := hrel
    have HJ := Lib.hid hJ
    have HR := Lib.hid hTr
    clear hJ
    by_cases hlt : k < l.length
    · obtain ⟨a', c', hv', _, hc'⟩ := hTr.strs
      obtain ⟨bb, off, ha', hcell⟩ := hc' (by omega)
      cases hv'
      subst ha'
      have hck := hcell k hlt
      clear hcell hc' hTr
      obtain ⟨fn, tmps, assign, body, hy, hRd⟩ := HY.out ((its l).take k) (k, l[k]) wr HJ.out (by rw [List.length_take, its_length]; omega)
      simp only [encIt] at hy
      have HRd := Lib.hid hRd
      clear hRd
      gi_wp2
      refine HRd.out.mono ?_
      rintro e W3 (⟨rfl, hJ3, hk3⟩ | ⟨rfl, hJx3⟩)
      · have HJ3 := Lib.hid hJ3
        have HK3 := Lib.hid hk3
        clear hJ3 hk3
        gi_wp2
        go_roundw
        case rel => exact ⟨k + 1, by omega, by go_num, by rw [its_take l k hlt]; exact HJ3.out, HR.out.keep HK3.out⟩
        case measure => simp [intOf]; omega
      · have HJ3 := Lib.hid hJx3
        clear hJx3
        gi_wp2
        refine bodyPost_ret (results_none rfl _ _ _) rfl ?_
        exact ⟨⟨_, rfl⟩, .inr ⟨(its l).take k ++ [(k, l[k])], by rw [← its_take l k hlt]; exact List.take_prefix _ _, HJ3.out⟩⟩
    · clear hTr
      gi_wp2
      go_end0
      have hkl : k = l.length := by omega
      have hj := HJ.out
      rw [hkl, List.take_of_length_le (by rw [its_length]; exact Nat.le_refl _)] at hj
      exact ⟨⟨_, rfl⟩, .inl ⟨its l, rfl, hj⟩⟩
/-- the iterator's contract -/
theorem told_stops (F : Fence) (n : Nat) (hF : F.fn 23) (hro : F.round = none) (hn : 1 ≤ n) (b : Nat) (v : Value) (l : List ByteArray) (w : World) (hT : Told w b v l) :
    SeqStopsK F n Try.prog 23 #[.pointer (some ⟨b, 0, none⟩)] encIt (TKeep b v) (fun ys => ys = its l) (fun pre => pre <+: its l) l.length w := fun lr J Jx W hW _ _ hY h0 =>
  iter_in F n hF hro hn lr b v l J Jx hY W (hT.keep (.of_below hW)) h0
end Go.Proofs.Ytdogfkjdoldpiaa
