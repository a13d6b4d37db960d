/- The table of names in memory: New, Len, Find, Name, Put. -/
import Derived.Test.YtdogfkjdoldpiaaA4
import Derived.Maps.OwnOps
import Derived.Maps.OwnSet
import Derived.StringKeys
namespace Go.Proofs.Ytdogfkjdoldpiaa
open Go.RowKit Go.Maps

theorem lawS : Keyed Try.prog 9 := string_keyed Try.underlying9
theorem zeroI (w : World) : (zeroValue 3).run Try.prog w = .ok (.int .i64 0) w := by kernel_rfl
abbrev mapAt (W : World) (m n : Nat) (l : List ByteArray) : Prop := W.ownsMap Try.prog 9 (plainElem (H := Unit) Try.prog 3) m n (mapOf l)
/-- BLOCK p HOLDS A TABLE OF THE NAMES l: its map lies in block m, its slice is v -/
structure Tab (W : World) (p m : Nat) (v : Value) (l : List ByteArray) : Prop where
  obj : W.heap[p]? = some (.cells #[.map (some m), v] 54)
  map : mapAt W m l.length l
  row : W.ownsRow 0 9 1 v l.length (l.map .string)
  nd : l.Nodup
  len : l.length ≤ 4096
  nm : ∀ s ∈ l, nameB s = true
/-- the blocks of a table -/
def tabIn (p m : Nat) (v : Value) (i : Nat) : Prop := i = p ∨ i = m ∨ v.ownBlock = some i
theorem row_same {w w' : World} {base e size : Nat} {v : Value} {n : Nat} {xs : List Value} (h : w.ownsRow base e size v n xs) (hs : ∀ b, v.ownBlock = some b → b < w.heap.size → w'.heap[b]? = w.heap[b]?) : w'.ownsRow base e size v n xs := by
  refine ⟨h.1, ?_⟩
  rcases h.2 with h2 | ⟨g, cap, cur, rfl, hb, hg, r⟩
  · exact .inl h2
  · exact .inr ⟨g, cap, cur, rfl, hb, by rw [hs g rfl (Array.getElem?_eq_some_iff.1 hg).1]; exact hg, r⟩
theorem map_same {w w' : World} {P : Program} {k : TypeId} {R : Value → Option (DataW Unit × List MemPlace)} {b n : Nat} {D : DataW Unit} (h : w.ownsMap P k R b n D) (hs : w'.heap[b]? = w.heap[b]?) : w'.ownsMap P k R b n D := by
  obtain ⟨es, clock, hb, F, hs', hD⟩ := h
  exact ⟨es, clock, hs.trans hb, F, hs', hD⟩
theorem Tab.lt {W : World} {p m : Nat} {v : Value} {l : List ByteArray} (h : Tab W p m v l) : p < W.heap.size ∧ m < W.heap.size ∧ ∀ b, v.ownBlock = some b → b < W.heap.size := by
  refine ⟨(Array.getElem?_eq_some_iff.1 h.obj).1, h.map.lt, fun b e => ?_⟩
  rcases h.row.2 with ⟨rfl, _⟩ | ⟨g, cap, cur, rfl, hb, hg, r⟩
  · cases e
  · cases e; exact (Array.getElem?_eq_some_iff.1 hg).1
theorem Tab.same {W W' : World} {p m : Nat} {v : Value} {l : List ByteArray} (h : Tab W p m v l) (hs : ∀ i, tabIn p m v i → i < W.heap.size → W'.heap[i]? = W.heap[i]?) : Tab W' p m v l :=
  ⟨(hs p (.inl rfl) h.lt.1).trans h.obj, map_same h.map (hs m (.inr (.inl rfl)) h.lt.2.1), row_same h.row (fun b e hb => hs b (.inr (.inr e)) hb), h.nd, h.len, h.nm⟩
theorem Tab.below {W W' : World} {p m : Nat} {v : Value} {l : List ByteArray} (h : Tab W p m v l) (hb : Below W.heap.size W W') : Tab W' p m v l := h.same fun i _ hi => hb.block i hi
theorem Tab.apart {W : World} {p m : Nat} {v : Value} {l : List ByteArray} (h : Tab W p m v l) : p ≠ m ∧ v.ownBlock ≠ some p ∧ v.ownBlock ≠ some m := by
  have hm : ∃ es clock, W.heap[m]? = some (.map es clock) := by obtain ⟨es, clock, hb, _⟩ := h.map; exact ⟨es, clock, hb⟩
  obtain ⟨es, clock, hm⟩ := hm
  refine ⟨fun e => ?_, fun e => ?_, fun e => ?_⟩
  · subst e; rw [h.obj] at hm; cases hm
  · rcases h.row.2 with ⟨rfl, _⟩ | ⟨g, cap, cur, rfl, hb, hg, r⟩
    · cases e
    · cases e; rw [h.obj] at hg; cases hg
  · rcases h.row.2 with ⟨rfl, _⟩ | ⟨g, cap, cur, rfl, hb, hg, r⟩
    · cases e
    · cases e; rw [hm] at hg; cases hg
theorem row_slice {w : World} {base e size : Nat} {v : Value} {n : Nat} {xs : List Value} (h : w.ownsRow base e size v n xs) : ∃ a c, v = .slice a n c := by
  rcases h.2 with ⟨rfl, rfl⟩ | ⟨g, cap, cur, rfl, _⟩
  · exact ⟨_, _, rfl⟩
  · exact ⟨_, _, rfl⟩
theorem Tab.cells {W : World} {p m : Nat} {v : Value} {l : List ByteArray} (h : Tab W p m v l) :
    W.cell? ⟨p, 0, none⟩ = some (.map (some m)) ∧ W.cell? ⟨p, 1, none⟩ = some v ∧ W.frozen? ⟨p, 0, none⟩ = false ∧ W.frozen? ⟨p, 1, none⟩ = false := by
  refine ⟨?_, ?_, ?_, ?_⟩ <;> simp [World.cell?, World.frozen?, h.obj]
theorem Tab.strs {W : World} {p m : Nat} {v : Value} {l : List ByteArray} (h : Tab W p m v l) : Strs W v l := .of_owns h.row (by have := h.len; omega)

def NewPost (W : World) (e : Ending) (w' : World) : Prop := e = .returned (.pointer (some ⟨W.heap.size + 1, 0, none⟩)) ∧ Tab w' (W.heap.size + 1) W.heap.size (.slice none 0 0) [] ∧ Below W.heap.size W w'
set_option maxHeartbeats 400000 in
theorem new_any (w : World) : Calls Try.prog 12 #[] w (NewPost w) := by
  have hmm := @run_makeMap Try.prog
  go_enter Try.func12, Try.ntmps12
  go_wp2
  go_ret
  refine ⟨rfl, ⟨?_, ?_, World.ownsRow_nil _ _ _ _, List.nodup_nil, by simp, by simp⟩, ((Below.refl _ w).alloc (Nat.le_refl _) _).alloc (by simp) _⟩
  · have := heap_new (w.alloc (.map #[] 0)) (.cells #[.map (some w.heap.size), .slice none 0 0] 54)
    rw [World.size_alloc] at this
    exact this
  · exact (World.ownsMap_made w _ _ _).alloc _

set_option maxHeartbeats 400000 in
theorem len_any (p m : Nat) (v : Value) (l : List ByteArray) (w : World) (h : Tab w p m v l) :
    Calls Try.prog 18 #[.pointer (some ⟨p, 0, none⟩)] w (RW w (.int .i64 l.length)) := by
  obtain ⟨c0, c1, f0, f1⟩ := h.cells
  obtain ⟨a, c, rfl⟩ := row_slice h.row
  clear h
  go_enter Try.func18, Try.ntmps18
  go_wp2
  go_ret
  exact ⟨rfl, rfl⟩
set_option maxHeartbeats 400000 in
theorem len_nil (w : World) : Calls Try.prog 18 #[.pointer none] w (RW w (.int .i64 0)) := by
  go_enter Try.func18, Try.ntmps18
  go_wp2
  go_ret
  exact ⟨rfl, rfl⟩

/-- what Find answers -/
def findV (l : List ByteArray) (s : ByteArray) : Value := .tuple #[.int .i64 ((pos l s).getD 0 : Nat), .bool (pos l s).isSome]
set_option maxHeartbeats 400000 in
theorem tfind_any (p m : Nat) (v : Value) (l : List ByteArray) (s : ByteArray) (w : World) (h : Tab w p m v l) (hs : s.size ≤ maxLen) :
    Calls Try.prog 20 #[.pointer (some ⟨p, 0, none⟩), .string s] w (RW w (findV l s)) := by
  obtain ⟨c0, c1, f0, f1⟩ := h.cells
  have HM := Lib.hid h.map
  have HK : Hid (keyOf Try.prog 9 (.string s) = some (key s)) := Go.WideMaps.keyOf_string_mk Try.underlying9 hs
  have HA := Lib.hid (at_mapOf h.nd s)
  have HH := Lib.hid (has_mapOf l s)
  clear h
  go_enter Try.func20, Try.ntmps20
  go_wp2_with (at_lookup; refine wpList_lookup_own_ok_int _ rfl _ _ 52 rfl 9 3 .i64 lawS Try.underlying52 Try.underlying3 (zeroI _) m _ _ rfl HM.out _ _ rfl HK.out ?_; intro cc hat hwc; have HC := Lib.hid hat; clear hat hwc)
  go_ret2
  refine ⟨?_, rfl⟩
  have e1 := HA.out.symm.trans HC.out
  simp only [num, DataW.lit.injEq, Lit.int.injEq, true_and] at e1
  rw [HH.out, ← e1]
  rfl
set_option maxHeartbeats 400000 in
theorem tfind_nil (s : ByteArray) (w : World) : Calls Try.prog 20 #[.pointer none, .string s] w (RW w (.tuple #[.int .i64 0, .bool false])) := by
  go_enter Try.func20, Try.ntmps20
  go_wp2
  go_ret2
  exact ⟨rfl, rfl⟩
end Go.Proofs.Ytdogfkjdoldpiaa
