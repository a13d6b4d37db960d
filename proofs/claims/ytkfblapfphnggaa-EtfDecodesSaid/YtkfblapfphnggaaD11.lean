/- Several texts in one. -/
import Derived.Test.YtkfblapfphnggaaD01
import Derived.Test.YtkfblapfphnggaaD05
import Derived.Test.YtkfblapfphnggaaD07
import Derived.Test.YtkfblapfphnggaaD10
import Derived.Test.YtkfblapfphnggaaD04
import Derived.Laws.BitsLemmas
import Derived.Test.YtkfblapfphnggaaD08
/- How terms are written: plain Lean, no program here. -/
namespace Go.Proofs.Ytkfblapfphnggaa
open Go.RowKit
set_option maxRecDepth 100000

/-- a number of any width; 'f': so many bytes at most -/
def viB : Nat → Nat → List UInt8
  | 0, _ => []
  | f + 1, n => if 127 < n then UInt8.ofNat (n % 128 + 128) :: viB f (n / 128) else [UInt8.ofNat n]
def wideB (n : Nat) : List UInt8 := viB 10 n
/-- a float's bytes -/
def bitsB (p : Nat) : List UInt8 := [UInt8.ofNat (p / 2 ^ 56), UInt8.ofNat (p / 2 ^ 48), UInt8.ofNat (p / 2 ^ 40), UInt8.ofNat (p / 2 ^ 32), UInt8.ofNat (p / 2 ^ 24), UInt8.ofNat (p / 2 ^ 16), UInt8.ofNat (p / 2 ^ 8), UInt8.ofNat p]
/-- a number with a sign -/
def zag (n : Int) : Nat := if 0 ≤ n then (2 * n).toNat else (-2 * n - 1).toNat
/-- a name's bytes; the names behind it -/
def atomB (names : List ByteArray) (s : ByteArray) : List UInt8 × List ByteArray :=
  match pos names s with
  | some k => (wideB k, names)
  | none => (wideB names.length ++ (UInt8.ofNat s.size :: s.data.toList), names ++ [s])
/-- a part's own bytes; the names behind it -/
def headB (h : Hd) (n : Nat) (names : List ByteArray) : List UInt8 × List ByteArray :=
  if h.kind = 1 then (wideB (zag h.n), names)
  else if h.kind = 2 then (bitsB h.re ++ bitsB h.im, names)
  else if h.kind = 3 then atomB names h.s
  else if h.kind = 4 ∨ h.kind = 5 then (UInt8.ofNat h.node.toNat :: (wideB h.boot.toNat ++ wideB h.idn.toNat), names)
  else if h.kind = 6 ∨ h.kind = 7 then (wideB n, names)
  else (wideB h.b.length ++ h.b, names)
mutual
def encT : Tm → List ByteArray → List UInt8 × List ByteArray
  | .mk h l, names =>
    let r := headB h l.length names
    let s := encTs l r.2
    (UInt8.ofNat h.kind.toNat :: (r.1 ++ s.1), s.2)
def encTs : List Tm → List ByteArray → List UInt8 × List ByteArray
  | [], names => ([], names)
  | t :: l, names =>
    let r := encT t names
    let s := encTs l r.2
    (r.1 ++ s.1, s.2)
end
theorem encTs_snoc : ∀ (l : List Tm) (t : Tm) (names : List ByteArray), encTs (l ++ [t]) names = ((encTs l names).1 ++ (encT t (encTs l names).2).1, (encT t (encTs l names).2).2)
  | [], t, names => by simp [encTs]
  | u :: l, t, names => by
    have := encTs_snoc l t (encT u names).2
    simp only [List.cons_append, encTs, this, List.append_assoc]
theorem encTs_app : ∀ (l k : List Tm) (names : List ByteArray), encTs (l ++ k) names = ((encTs l names).1 ++ (encTs k (encTs l names).2).1, (encTs k (encTs l names).2).2)
  | [], k, names => by simp [encTs]
  | u :: l, k, names => by
    have := encTs_app l k (encT u names).2
    simp only [List.cons_append, encTs, this, List.append_assoc]
theorem encTs_take {l : List Tm} {i : Nat} (h : i < l.length) (names : List ByteArray) : encTs (l.take (i + 1)) names = ((encTs (l.take i) names).1 ++ (encT l[i] (encTs (l.take i) names).2).1, (encT l[i] (encTs (l.take i) names).2).2) := by
  rw [List.take_succ_eq_append_getElem h, encTs_snoc]
theorem encTs_le {l : List Tm} (i : Nat) (names : List ByteArray) : (encTs (l.take i) names).1.length ≤ (encTs l names).1.length := by
  have h := encTs_app (l.take i) (l.drop i) names
  rw [List.take_append_drop] at h
  rw [h, List.length_append]
  omega
theorem viB_len : ∀ (f n : Nat), (viB f n).length ≤ f
  | 0, _ => by simp [viB]
  | f + 1, n => by
    unfold viB
    split
    · have := viB_len f (n / 128); simp; omega
    · simp
theorem wideB_len (n : Nat) : (wideB n).length ≤ 10 := viB_len 10 n
theorem headB_len (h : Hd) (n : Nat) (names : List ByteArray) (hs : h.s.size ≤ 32) : (headB h n names).1.length ≤ 43 + h.b.length := by
  have w := wideB_len
  unfold headB
  split
  · have := w (zag h.n); simp only; omega
  split
  · show (bitsB h.re ++ bitsB h.im).length ≤ _; rw [List.length_append]; show 8 + 8 ≤ _; omega
  split
  · unfold atomB
    split
    · rename_i k _; have := w k; simp only; omega
    · have := w names.length
      have e : h.s.data.toList.length = h.s.size := rfl
      simp only [List.length_append, List.length_cons]
      omega
  split
  · have := w h.boot.toNat; have := w h.idn.toNat; simp only [List.length_append, List.length_cons]; omega
  split
  · have := w n; simp only; omega
  · have := w h.b.length; simp only [List.length_append]; omega
theorem nameB_32 {s : ByteArray} (h : nameB s = true) : s.size ≤ 32 := by
  unfold nameB at h
  simp at h
  omega
theorem hdOk_s {h : Hd} {l : List Tm} (k : HdOk h l) : h.s.size ≤ 32 := by
  cases k <;> first | (exact nameB_32 (by assumption)) | (show 0 ≤ 32; decide)
theorem encT_len : ∀ (r : Nat) (t : Tm), GoodT r t → ∀ names, (encT t names).1.length ≤ 44 * sizeT t
  | 0, _, h, _ => h.elim
  | r + 1, .mk h l, hg, names => by
    have h1 := headB_len h l.length names (hdOk_s hg.1)
    have h2 : ∀ (l2 : List Tm), (∀ t ∈ l2, GoodT r t) → ∀ names, (encTs l2 names).1.length ≤ 44 * sizeTs l2 := by
      intro l2
      induction l2 with
      | nil => intro _ names; simp [encTs]
      | cons t l2 ih =>
        intro hk names
        have a := encT_len r t (hk t (by simp)) names
        have b := ih (fun x hx => hk x (by simp [hx])) (encT t names).2
        simp only [encTs, sizeTs, List.length_append]
        omega
    have h3 := h2 l hg.2 (headB h l.length names).2
    simp only [encT, sizeT, List.length_cons, List.length_append]
    omega
end Go.Proofs.Ytkfblapfphnggaa
/- The writer in memory; its numbers of any width. -/
namespace Go.Proofs.Ytkfblapfphnggaa
open Go.RowKit
set_option maxRecDepth 100000

theorem infoU8 : (Try.prog.info? 5).map (fun i => (i.zero, i.size, i.bytes)) = some (some (.int .u8 0), 1, 1) := by kernel_rfl
/-- BLOCK Wb HOLDS A WRITER: its bytes so far are out, its table is p, m, v; all of it lies in blocks from B on -/
structure WrAt (B Wb p m : Nat) (v : Value) (a : Option Addr) (c : Nat) (out : List UInt8) (names : List ByteArray) (W : World) : Prop where
  cells : W.heap[Wb]? = some (.cells #[.slice a out.length c, .pointer (some ⟨p, 0, none⟩)] 66 (0, 0))
  row : W.ownsRow B 5 1 (.slice a out.length c) out.length (out.map cellB)
  tab : Tab W p m v names
  far : ∀ b, (Value.slice a out.length c).ownBlock = some b → b ≠ Wb ∧ ¬ tabIn p m v b
  alone : ¬ tabIn p m v Wb
  from1 : B ≤ Wb
  from2 : ∀ i, tabIn p m v i → B ≤ i
theorem WrAt.wl {B Wb p m : Nat} {v : Value} {a : Option Addr} {c : Nat} {out : List UInt8} {names : List ByteArray} {W : World} (h : WrAt B Wb p m v a c out names W) : Wb < W.heap.size := (Array.getElem?_eq_some_iff.1 h.cells).1
theorem WrAt.bl {B Wb p m : Nat} {v : Value} {a : Option Addr} {c : Nat} {out : List UInt8} {names : List ByteArray} {W : World} (h : WrAt B Wb p m v a c out names W) : B ≤ W.heap.size := Nat.le_trans h.from1 (Nat.le_of_lt h.wl)
theorem WrAt.c0 {B Wb p m : Nat} {v : Value} {a : Option Addr} {c : Nat} {out : List UInt8} {names : List ByteArray} {W : World} (h : WrAt B Wb p m v a c out names W) : W.cell? ⟨Wb, 0, none⟩ = some (.slice a out.length c) := by simp [World.cell?, h.cells]
theorem WrAt.c1 {B Wb p m : Nat} {v : Value} {a : Option Addr} {c : Nat} {out : List UInt8} {names : List ByteArray} {W : World} (h : WrAt B Wb p m v a c out names W) : W.cell? ⟨Wb, 1, none⟩ = some (.pointer (some ⟨p, 0, none⟩)) := by simp [World.cell?, h.cells]
theorem WrAt.fz {B Wb p m : Nat} {v : Value} {a : Option Addr} {c : Nat} {out : List UInt8} {names : List ByteArray} {W : World} (h : WrAt B Wb p m v a c out names W) (o : Nat) : W.frozen? ⟨Wb, o, none⟩ = false := by simp [World.frozen?, h.cells]
theorem WrAt.below {B Wb p m : Nat} {v : Value} {a : Option Addr} {c : Nat} {out : List UInt8} {names : List ByteArray} {W W' : World} (h : WrAt B Wb p m v a c out names W) (hb : Below W.heap.size W W') : WrAt B Wb p m v a c out names W' :=
  ⟨(hb.block _ h.wl).trans h.cells, row_same h.row fun b _ hl => hb.block b hl, h.tab.below hb, h.far, h.alone, h.from1, h.from2⟩
/-- the writer's blocks -/
def wfoot (Wb p m : Nat) (v : Value) (a : Option Addr) (n c : Nat) (i : Nat) : Prop := i = Wb ∨ tabIn p m v i ∨ (Value.slice a n c).ownBlock = some i
/-- the writer has written more -/
structure WrStep (B Wb p m : Nat) (v : Value) (a : Option Addr) (c : Nat) (out : List UInt8) (W : World) (v' : Value) (a' : Option Addr) (c' : Nat) (out' : List UInt8) (names' : List ByteArray) (W' : World) : Prop where
  wr : WrAt B Wb p m v' a' c' out' names' W'
  turn : Turn (wfoot Wb p m v a out.length c) W W'
  own : (Value.slice a' out'.length c').ownBlock = (Value.slice a out.length c).ownBlock ∨ ∀ b, (Value.slice a' out'.length c').ownBlock = some b → W.heap.size ≤ b
  tabown : v'.ownBlock = v.ownBlock ∨ ∀ b, v'.ownBlock = some b → W.heap.size ≤ b
theorem WrAt.foot {B Wb p m : Nat} {v : Value} {a : Option Addr} {c : Nat} {out : List UInt8} {names : List ByteArray} {W : World} (h : WrAt B Wb p m v a c out names W) : ∀ i, wfoot Wb p m v a out.length c i → B ≤ i ∧ i < W.heap.size := by
  rintro i (rfl | e | e)
  · exact ⟨h.from1, h.wl⟩
  · refine ⟨h.from2 i e, ?_⟩
    rcases e with e | e | e
    · have := h.tab.lt.1; omega
    · have := h.tab.lt.2.1; omega
    · exact h.tab.lt.2.2 i e
  · exact h.row.lt i e
theorem WrAt.stay {B Wb p m : Nat} {v : Value} {a : Option Addr} {c : Nat} {out : List UInt8} {names : List ByteArray} {W W' : World} (h : WrAt B Wb p m v a c out names W) (hb : Below W.heap.size W W') : WrStep B Wb p m v a c out W v a c out names W' :=
  ⟨h.below hb, Turn.of_below hb, .inl rfl, .inl rfl⟩
theorem WrStep.below {B Wb p m c c' : Nat} {v v' : Value} {a a' : Option Addr} {out out' : List UInt8} {names names' : List ByteArray} {W W' : World} (h : WrAt B Wb p m v a c out names W) (s : WrStep B Wb p m v a c out W v' a' c' out' names' W') : Below B W W' :=
  s.turn.below h.bl fun i e => (h.foot i e).1
theorem WrStep.trans {B Wb p m c c' c2 : Nat} {v v' v2 : Value} {a a' a2 : Option Addr} {out out' out2 : List UInt8} {names' names2 : List ByteArray} {W W' W2 : World} (s : WrStep B Wb p m v a c out W v' a' c' out' names' W') (t : WrStep B Wb p m v' a' c' out' W' v2 a2 c2 out2 names2 W2) :
    WrStep B Wb p m v a c out W v2 a2 c2 out2 names2 W2 := by
  have hsz := s.turn.size
  refine ⟨t.wr, s.turn.andThen t.turn ?_, ?_, ?_⟩
  · rintro i (e | (e | e | e) | e)
    · exact .inl (.inl e)
    · exact .inl (.inr (.inl (.inl e)))
    · exact .inl (.inr (.inl (.inr (.inl e))))
    · rcases s.tabown with h | h
      · exact .inl (.inr (.inl (.inr (.inr (h.symm.trans e)))))
      · exact .inr (h i e)
    · rcases s.own with h | h
      · exact .inl (.inr (.inr (h.symm.trans e)))
      · exact .inr (h i e)
  · rcases t.own with h | h
    · rw [h]; exact s.own
    · exact .inr fun b e => Nat.le_trans hsz (h b e)
  · rcases t.tabown with h | h
    · rw [h]; exact s.tabown
    · exact .inr fun b e => Nat.le_trans hsz (h b e)
/-- what is none of the writer's stays -/
theorem WrStep.keep {B Wb p m c c' i : Nat} {v v' : Value} {a a' : Option Addr} {out out' : List UInt8} {names' : List ByteArray} {W W' : World} (s : WrStep B Wb p m v a c out W v' a' c' out' names' W') (hi : i < W.heap.size) (hn : ¬ wfoot Wb p m v a out.length c i) : W'.heap[i]? = W.heap[i]? := s.turn.block i hi hn
/-- behind an append and a store -/
theorem WrAt.app {B Wb p m k c c1 : Nat} {v : Value} {a a1 : Option Addr} {out news : List UInt8} {names : List ByteArray} {W W0 w1 : World} (h : WrAt B Wb p m v a c out names W) (hb0 : Below W.heap.size W W0) (hk : news.length = k) (hg : W0.grownBy w1 (Value.slice a out.length c).ownBlock)
    (ho : w1.ownsRow B 5 1 (.slice a1 (out.length + k) c1) (out.length + k) (out.map cellB ++ news.map cellB)) (hl : (Value.slice a1 (out.length + k) c1).ownBlock = (Value.slice a out.length c).ownBlock ∨ (Value.slice a1 (out.length + k) c1).ownBlock = some W0.heap.size) :
    WrStep B Wb p m v a c out W v a1 c1 (out ++ news) names (w1.setCell ⟨Wb, 0, none⟩ (.slice a1 (out.length + k) c1)) := by
  subst hk
  have hT := Turn.of_grownBy hg
  have hs0 := hb0.size
  have hlen : (out ++ news).length = out.length + news.length := by simp
  have hrow : ∀ b, (Value.slice a out.length c).ownBlock = some b → B ≤ b := fun b e => (h.row.lt b e).1
  have hbW : ∀ i, i < W.heap.size → (Value.slice a out.length c).ownBlock ≠ some i → w1.heap[i]? = W.heap[i]? := fun i hi hn => (hT.block i (by omega) hn).trans (hb0.block i hi)
  have hset : ∀ i, i ≠ Wb → (w1.setCell ⟨Wb, 0, none⟩ (.slice a1 (out.length + news.length) c1)).heap[i]? = w1.heap[i]? := fun i hi => Below.heap_setCell w1 ⟨Wb, 0, none⟩ _ i hi
  have hWne : (Value.slice a out.length c).ownBlock ≠ some Wb := fun e => (h.far Wb e).1 rfl
  have hfar1 : ∀ b, (Value.slice a1 (out.length + news.length) c1).ownBlock = some b → b ≠ Wb ∧ ¬ tabIn p m v b := by
    intro b e
    rcases hl with hl | hl
    · exact h.far b (hl.symm.trans e)
    · have e2 := hl.symm.trans e
      cases e2
      refine ⟨by have := h.wl; omega, ?_⟩
      rintro (e3 | e3 | e3)
      · have := h.tab.lt.1; omega
      · have := h.tab.lt.2.1; omega
      · have := h.tab.lt.2.2 _ e3; omega
  refine ⟨⟨?_, ?_, ?_, ?_, h.alone, h.from1, h.from2⟩, ?_, ?_, .inl rfl⟩
  · rw [hlen]
    exact heap_setCell_at ((hbW Wb h.wl hWne).trans h.cells)
  · rw [hlen, List.map_append]
    exact row_same ho fun b e _ => hset b (hfar1 b e).1
  · exact h.tab.same fun i hi hil => (hset i fun e => h.alone (e ▸ hi)).trans (hbW i hil fun e => (h.far i e).2 hi)
  · rw [hlen]
    exact hfar1
  · exact ((Turn.of_below hb0).trans (hT.mono fun i _ e => .inr (.inr e))).trans ((Turn.setCell w1 Wb 0 _).mono fun i _ e => .inl e)
  · rw [hlen]
    rcases hl with hl | hl
    · exact .inl hl
    · exact .inr fun b e => by have e2 := hl.symm.trans e; cases e2; exact hs0
/-- HOW THE WRITER'S METHODS END -/
def WrPost (B Wb p m : Nat) (v : Value) (a : Option Addr) (c : Nat) (out : List UInt8) (W : World) (out' : List UInt8) (names' : List ByteArray) (e : Ending) (w' : World) : Prop :=
  e = .returned (.tuple #[]) ∧ ∃ v' a' c', WrStep B Wb p m v a c out W v' a' c' out' names' w'
theorem or128 (x : Nat) (hx : x < 256) : bits .or .u8 (x : Int) 128 = ((x % 128 + 128 : Nat) : Int) := by
  have key : ∀ y : Fin 256, bits .or .u8 ((y.val : Nat) : Int) 128 = ((y.val % 128 + 128 : Nat) : Int) := by decide +kernel
  exact key ⟨x, hx⟩
theorem wrap_u8 (n : Nat) : IntKind.u8.wrap (n : Int) = ((n % 256 : Nat) : Int) := by simp [IntKind.wrap, IntKind.bits, IntKind.signed]
theorem ofNat_toNat (n : Nat) : ((UInt8.ofNat n).toNat : Int) = ((n % 256 : Nat) : Int) := by simp
end Go.Proofs.Ytkfblapfphnggaa
/- The writer's numbers of any width. -/
namespace Go.Proofs.Ytkfblapfphnggaa
open Go.RowKit
set_option maxRecDepth 100000

/-- how a round begins -/
def wwRel (B Wb p m : Nat) (v0 : Value) (a0 : Option Addr) (c0 : Nat) (W : World) (out : List UInt8) (n : Nat) (names : List ByteArray) (t1 : Value) (wr : World) : Prop :=
  ∃ (f k : Nat) (o2 : List UInt8) (v : Value) (a : Option Addr) (c : Nat), t1 = .int .u64 k ∧ 0 < f ∧ k < 128 ^ f ∧ k < 18446744073709551616 ∧ o2 ++ viB f k = out ++ wideB n ∧ WrStep B Wb p m v0 a0 c0 out W v a c o2 names wr
set_option maxHeartbeats 1000000 in
theorem wwide_any (B Wb p m : Nat) (v : Value) (a : Option Addr) (c : Nat) (out : List UInt8) (names : List ByteArray) (n : Nat) (hn : n < 18446744073709551616) (w : World) (h : WrAt B Wb p m v a c out names w) (hlen : out.length + 10 ≤ 1000000000) :
    Calls Try.prog 38 #[.pointer (some ⟨Wb, 0, none⟩), .int .u64 (n : Nat)] w (WrPost B Wb p m v a c out w (out ++ wideB n) names) := by
  have H := Lib.hid h
  have HLn := Lib.hid hlen
  have HN := Lib.hid hn
  obtain ⟨i0, hi, hz0, hz1, hz2⟩ := info_parts infoU8
  have X1 := Lib.hid hi
  have X2 := Lib.hid hz0
  have X3 := Lib.hid hz1
  have X4 := Lib.hid hz2
  clear h hi hz0 hz1 hz2 hlen hn
  go_enter Try.func38, Try.ntmps38
  go_wp2_with fail
  go_loopw [1] (fun t1 wr => wwRel B Wb p m v a c w out n names t1 wr) (fun t1 _ => (intOf t1).toNat)
  case atStart => exact ⟨10, n, out, v, a, c, rfl, by decide, by have := HN.out; omega, HN.out, rfl, H.out.stay (Below.refl _ _)⟩
  case round =>
    obtain ⟨f, k, o2, v2, a2, c2, rfl, hf, hk, hk64, he, hS⟩ := hrel
    have hW := hS.wr
    obtain ⟨f, rfl⟩ : ∃ g, f = g + 1 := ⟨f - 1, by omega⟩
    have HE := Lib.hid he
    have HW := Lib.hid hW
    have HS := Lib.hid hS
    have HK := Lib.hid hk
    have hol : o2.length ≤ out.length + 10 := by
      have h1 := congrArg List.length he
      have h2 := wideB_len n
      simp only [List.length_append] at h1
      omega
    have HOl := Lib.hid hol
    have k0 := hW.c0
    have hBl := Lib.hid hW.bl
    clear he hW hS hk hol hf
    by_cases hlt : 127 < k
    · have hlI : (127 : Int) < (k : Int) := by omega
      have hw8 := wrap_u8 k
      have hor := or128 (k % 256) (Nat.mod_lt _ (by decide))
      rw [show k % 256 % 128 + 128 = k % 128 + 128 by omega] at hor
      rw [show (((k % 256 : Nat)) : Int) = (k : Int) % 256 by omega] at hor
      have hxl : k % 128 + 128 < 256 := by omega
      obtain ⟨x, hx⟩ : ∃ x : Nat, k % 128 + 128 = x := ⟨_, rfl⟩
      rw [hx] at hor hxl
      have HCb := Lib.hid (show [UInt8.ofNat x].map cellB = [.int .u8 (x : Int)] by show [Value.int .u8 _] = _; rw [ofNat_toNat, Nat.mod_eq_of_lt (by omega)])
      have HXx := Lib.hid hx
      clear hx
      have kf := HW.out.fz 0
      have hwl := HW.out.wl
      have HM1 := Lib.hid (show o2.length + 1 ≤ maxLen by have := HOl.out; have := HLn.out; unfold maxLen; omega)
      have HM2 := Lib.hid (show (o2.length + 1) * 1 ≤ 140737488355328 by have := HOl.out; have := HLn.out; omega)
      have HM3 := Lib.hid (show ∀ o, B ≤ (wr.alloc o).heap.size from fun o => by have := hBl.out; simp; omega)
      go_wp2_with (at_builtin; refine wpList_app _ rfl (.tmp 10) (.tmp 14) 22 22 rfl B 5 i0 (.int .u8 0) 1 1 Try.underlying22 X1.out X2.out X3.out X4.out rfl (by decide) _ _ _ rfl (HW.out.row.alloc _) _ 1 [.int .u8 (x : Int)] rfl (src_one _ Try.underlying22 _ _ rfl) HM1.out HM2.out (HM3.out _) ?_; intro a4 c4 w4 ho4 hg4 _ hl4; have HA := Lib.hid (HW.out.app ((Below.refl _ wr).alloc (Nat.le_refl _) _) (news := [UInt8.ofNat x]) rfl hg4 (by rw [HCb.out]; exact ho4) hl4); have K4 := kept_cell _ k0 kf hg4 (fun e => (HW.out.far Wb e).1 rfl); obtain ⟨y4, z4⟩ := K4; clear ho4 hg4 hl4)
      clear y4 z4 k0 kf hw8 hor
      go_round
      case rel =>
        refine ⟨f, k / 128, o2 ++ [UInt8.ofNat x], v2, a4, c4, by go_num, ?_, ?_, by omega, ?_, HS.out.trans HA.out⟩
        · rcases Nat.eq_zero_or_pos f with rfl | hp
          · have := HK.out; omega
          · exact hp
        · have := HK.out
          rw [Nat.pow_succ] at this
          omega
        · have := HE.out
          rw [viB, if_pos hlt, HXx.out] at this
          rw [List.append_assoc]
          exact this
      case measure => simp [intOf]; omega
    · have hlI : ¬ (127 : Int) < (k : Int) := by omega
      have hd : decide ((127 : Int) < (k : Int)) = false := decide_eq_false hlI
      have hw8 : IntKind.u8.wrap (k : Int) = (k : Int) := by rw [wrap_u8]; omega
      have HCb := Lib.hid (show [UInt8.ofNat k].map cellB = [.int .u8 (k : Int)] by show [Value.int .u8 _] = _; rw [ofNat_toNat, Nat.mod_eq_of_lt (by omega)])
      have kf := HW.out.fz 0
      have hwl := HW.out.wl
      have HM1 := Lib.hid (show o2.length + 1 ≤ maxLen by have := HOl.out; have := HLn.out; unfold maxLen; omega)
      have HM2 := Lib.hid (show (o2.length + 1) * 1 ≤ 140737488355328 by have := HOl.out; have := HLn.out; omega)
      have HM3 := Lib.hid (show ∀ o, B ≤ (wr.alloc o).heap.size from fun o => by have := hBl.out; simp; omega)
      go_wp2_with (at_builtin; refine wpList_app _ rfl (.tmp 24) (.tmp 27) 22 22 rfl B 5 i0 (.int .u8 0) 1 1 Try.underlying22 X1.out X2.out X3.out X4.out rfl (by decide) _ _ _ rfl (HW.out.row.alloc _) _ 1 [.int .u8 (k : Int)] rfl (src_one _ Try.underlying22 _ _ rfl) HM1.out HM2.out (HM3.out _) ?_; intro a4 c4 w4 ho4 hg4 _ hl4; have HA := Lib.hid (HW.out.app ((Below.refl _ wr).alloc (Nat.le_refl _) _) (news := [UInt8.ofNat k]) rfl hg4 (by rw [HCb.out]; exact ho4) hl4); have K4 := kept_cell _ k0 kf hg4 (fun e => (HW.out.far Wb e).1 rfl); obtain ⟨y4, z4⟩ := K4; clear ho4 hg4 hl4)
      go_end0
      refine ⟨rfl, v2, a4, c4, HS.out.trans ?_⟩
      have := HE.out
      rw [viB, if_neg hlt] at this
      rw [← this]
      exact HA.out
end Go.Proofs.Ytkfblapfphnggaa
/- The writer: small laws on its steps. -/
namespace Go.Proofs.Ytkfblapfphnggaa
open Go.RowKit
set_option maxRecDepth 100000

theorem WrAt.kept {B Wb p m c : Nat} {v : Value} {a : Option Addr} {out : List UInt8} {names : List ByteArray} {W W0 w1 : World} (h : WrAt B Wb p m v a c out names W) (hb0 : Below W.heap.size W W0) (hg : W0.grownBy w1 (Value.slice a out.length c).ownBlock) :
    w1.cell? ⟨Wb, 0, none⟩ = some (.slice a out.length c) ∧ w1.frozen? ⟨Wb, 0, none⟩ = false := by
  have e : w1.heap[Wb]? = W.heap[Wb]? := ((Turn.of_grownBy hg).block Wb (by have := h.wl; have := hb0.size; omega) fun e => (h.far Wb e).1 rfl).trans (hb0.block Wb h.wl)
  exact ⟨(World.cell?_of_block (w := W) e).trans h.c0, (World.frozen?_of_block (w := W) e).trans (h.fz 0)⟩
theorem cell1 {x n : Nat} (h : x < 256) (hn : n = x) : [UInt8.ofNat n].map cellB = [.int .u8 (x : Int)] := by
  subst hn
  show [Value.int .u8 _] = _
  rw [ofNat_toNat, Nat.mod_eq_of_lt h]
/-- a name was put into the writer's table -/
theorem WrAt.put {B Wb p m c : Nat} {v v2 : Value} {a : Option Addr} {out : List UInt8} {names names2 : List ByteArray} {W W2 : World} (h : WrAt B Wb p m v a c out names W) (ht : Tab W2 p m v2 names2) (hT : Turn (tabIn p m v) W W2) (hv : v2.ownBlock = v.ownBlock ∨ ∀ b, v2.ownBlock = some b → W.heap.size ≤ b) :
    WrStep B Wb p m v a c out W v2 a c out names2 W2 := by
  have hin : ∀ i, i < W.heap.size → tabIn p m v2 i → tabIn p m v i := by
    rintro i hi (e | e | e)
    · exact .inl e
    · exact .inr (.inl e)
    · rcases hv with hv | hv
      · exact .inr (.inr (hv.symm.trans e))
      · have := hv i e; omega
  refine ⟨⟨(hT.block _ h.wl h.alone).trans h.cells, row_same h.row fun b e hl => hT.block b hl (h.far b e).2, ht, fun b e => ⟨(h.far b e).1, fun k => (h.far b e).2 (hin b (h.row.lt b e).2 k)⟩, fun k => h.alone (hin _ h.wl k), h.from1, ?_⟩, hT.mono fun i _ e => .inr (.inl e), .inl rfl, hv⟩
  rintro i (e | e | e)
  · exact h.from2 i (.inl e)
  · exact h.from2 i (.inr (.inl e))
  · rcases hv with hv | hv
    · exact h.from2 i (.inr (.inr (hv.symm.trans e)))
    · have := hv i e; have := h.bl; omega
end Go.Proofs.Ytkfblapfphnggaa
