/- A term in memory. -/
import Derived.Test.YtkpeelhanmekdaaA0
namespace Go.Proofs.Ytkpeelhanmekdaa
set_option linter.unusedVariables false
set_option linter.unusedSimpArgs false
set_option linter.constructorNameAsVariable false
open Go.RowKit
set_option maxRecDepth 100000


/-- a slice of the call's own, in blocks of F -/
def Row (w : World) (F : Nat → Prop) (e : TypeId) (size : Nat) (v : Value) (n : Nat) (xs : List Value) : Prop := w.ownsRow 0 e size v n xs ∧ (∀ b, v.ownBlock = some b → F b) ∧ (n = 0 → v = nilV)
theorem Row.nil (w : World) (F : Nat → Prop) (e : TypeId) (size : Nat) : Row w F e size nilV 0 [] := ⟨World.ownsRow_nil _ _ _ _, (fun b e => by cases e), fun _ => rfl⟩
theorem Row.keep {w w' : World} {F : Nat → Prop} {e : TypeId} {size : Nat} {v : Value} {n : Nat} {xs : List Value} (h : Row w F e size v n xs) (hs : ∀ b, F b → b < w.heap.size → w'.heap[b]? = w.heap[b]?) : Row w' F e size v n xs :=
  ⟨row_same h.1 fun b e hb => hs b (h.2.1 b e) hb, h.2⟩
theorem Row.mono {w : World} {F F' : Nat → Prop} {e : TypeId} {size : Nat} {v : Value} {n : Nat} {xs : List Value} (h : Row w F e size v n xs) (hF : ∀ b, F b → b < w.heap.size → F' b) : Row w F' e size v n xs :=
  ⟨h.1, fun b e => hF b (h.2.1 b e) (h.1.lt b e).2, h.2.2⟩
/-- the cells of several parts, one behind the other -/
def cat (vs : List (Array Value)) : List Value := vs.flatMap Array.toList
mutual
/-- these nine cells hold a term, whose lists lie in blocks of F -/
def Rep (w : World) (F : Nat → Prop) : Tm → Array Value → Prop
  | .mk h l, c => ∃ bv lv, c = hdC h bv lv ∧ Row w F 5 1 bv h.b.length (h.b.map cellB) ∧ ∃ vs, Row w F 44 9 lv l.length (cat vs) ∧ Reps w F l vs
def Reps (w : World) (F : Nat → Prop) : List Tm → List (Array Value) → Prop
  | [], vs => vs = []
  | t :: l, vs => ∃ c r, vs = c :: r ∧ Rep w F t c ∧ Reps w F l r
end
mutual
theorem Rep.keep {w w' : World} {F : Nat → Prop} (hs : ∀ b, F b → b < w.heap.size → w'.heap[b]? = w.heap[b]?) : ∀ (t : Tm) (c : Array Value), Rep w F t c → Rep w' F t c
  | .mk _ l, _ => fun ⟨bv, lv, e, hb, vs, hl, hr⟩ => ⟨bv, lv, e, hb.keep hs, vs, hl.keep hs, Reps.keep hs l vs hr⟩
theorem Reps.keep {w w' : World} {F : Nat → Prop} (hs : ∀ b, F b → b < w.heap.size → w'.heap[b]? = w.heap[b]?) : ∀ (l : List Tm) (vs : List (Array Value)), Reps w F l vs → Reps w' F l vs
  | [], _ => fun h => h
  | t :: l, _ => fun ⟨c, r, e, h1, h2⟩ => ⟨c, r, e, Rep.keep hs t c h1, Reps.keep hs l r h2⟩
end
mutual
theorem Rep.mono {w : World} {F F' : Nat → Prop} (hF : ∀ b, F b → b < w.heap.size → F' b) : ∀ (t : Tm) (c : Array Value), Rep w F t c → Rep w F' t c
  | .mk _ l, _ => fun ⟨bv, lv, e, hb, vs, hl, hr⟩ => ⟨bv, lv, e, hb.mono hF, vs, hl.mono hF, Reps.mono hF l vs hr⟩
theorem Reps.mono {w : World} {F F' : Nat → Prop} (hF : ∀ b, F b → b < w.heap.size → F' b) : ∀ (l : List Tm) (vs : List (Array Value)), Reps w F l vs → Reps w F' l vs
  | [], _ => fun h => h
  | t :: l, _ => fun ⟨c, r, e, h1, h2⟩ => ⟨c, r, e, Rep.mono hF t c h1, Reps.mono hF l r h2⟩
end
theorem Rep.size {w : World} {F : Nat → Prop} : ∀ {t : Tm} {c : Array Value}, Rep w F t c → c.size = 9
  | .mk _ _, _, ⟨_, _, e, _⟩ => by rw [e]; rfl
theorem Reps.snoc {w : World} {F : Nat → Prop} {t : Tm} {c : Array Value} (h : Rep w F t c) : ∀ {l : List Tm} {vs : List (Array Value)}, Reps w F l vs → Reps w F (l ++ [t]) (vs ++ [c])
  | [], vs, h0 => by
    have : vs = [] := h0
    subst this
    exact ⟨c, [], rfl, h, rfl⟩
  | _ :: _, _, ⟨d, r, e, h1, h2⟩ => by
    subst e
    exact ⟨d, r ++ [c], rfl, h1, Reps.snoc h h2⟩
theorem cat_snoc (vs : List (Array Value)) (c : Array Value) : cat (vs ++ [c]) = cat vs ++ c.toList := by simp [cat]


mutual
/-- how great a term is -/
def sizeT : Tm → Nat
  | .mk h l => 1 + h.b.length + sizeTs l
def sizeTs : List Tm → Nat
  | [] => 0
  | t :: l => sizeT t + sizeTs l
end
theorem sizeTs_app : ∀ (a b : List Tm), sizeTs (a ++ b) = sizeTs a + sizeTs b
  | [], b => by simp [sizeTs]
  | t :: a, b => by
    have := sizeTs_app a b
    simp only [List.cons_append, sizeTs, this]
    omega
theorem sizeTs_take {l : List Tm} {i : Nat} (h : i < l.length) : sizeTs (l.take (i + 1)) = sizeTs (l.take i) + sizeT l[i] := by
  rw [List.take_succ_eq_append_getElem h, sizeTs_app]
  simp [sizeTs]
theorem sizeTs_le {l : List Tm} (i : Nat) : sizeTs (l.take i) ≤ sizeTs l := by
  have := sizeTs_app (l.take i) (l.drop i)
  rw [List.take_append_drop] at this
  omega
/-- a part's own fields are right -/
inductive HdOk : Hd → List Tm → Prop
  | int (n : Int) (h : inR n = true) : HdOk { kind := 1, n := n } []
  | atom (s : ByteArray) (h : nameB s = true) : HdOk { kind := 3, s := s } []
  | id (k node boot idn : Nat) (hk : k = 4 ∨ k = 5) (hn : node < 256) (hb : boot < 4294967296) (hi : idn < 18446744073709551616) (h : idOk node boot idn = true) : HdOk { kind := k, node := node, boot := boot, idn := idn } []
  | list (k : Nat) (l : List Tm) (hk : k = 6 ∨ k = 7) (h : l.length ≤ 256) : HdOk { kind := k } l
/-- a right term, so deep at most -/
def GoodT : Nat → Tm → Prop
  | 0, _ => False
  | r + 1, .mk h l => HdOk h l ∧ ∀ t ∈ l, GoodT r t
theorem Reps.len {w : World} {F : Nat → Prop} : ∀ {l : List Tm} {vs : List (Array Value)}, Reps w F l vs → vs.length = l.length
  | [], vs, h => by
    have : vs = [] := h
    subst this
    rfl
  | _ :: _, _, ⟨_, _, e, _, h⟩ => by
    subst e
    simp [h.len]
theorem Reps.at {w : World} {F : Nat → Prop} : ∀ {l : List Tm} {vs : List (Array Value)}, Reps w F l vs → ∀ (i : Nat) (h : i < l.length) (h' : i < vs.length), Rep w F l[i] vs[i]
  | [], _, _, i, h, _ => absurd h (by simp)
  | _ :: _, _, ⟨_, _, e, h1, h2⟩, 0, _, _ => by subst e; exact h1
  | _ :: l, _, ⟨_, _, e, h1, h2⟩, i + 1, h, h' => by
    subst e
    exact Reps.at h2 i (by simpa using h) (by simpa using h')
theorem cat_get : ∀ (vs : List (Array Value)), (∀ c ∈ vs, c.size = 9) → ∀ (i j : Nat) (hi : i < vs.length) (_ : j < 9), (cat vs)[i * 9 + j]? = vs[i][j]?
  | [], _, _, _, hi, _ => by simp at hi
  | c :: vs, hs, 0, j, _, hj => by
    have e : cat (c :: vs) = c.toList ++ cat vs := by simp [cat]
    have hc := hs c (by simp)
    rw [e, Nat.zero_mul, Nat.zero_add, List.getElem?_append_left (by simp; omega)]
    simp
  | c :: vs, hs, i + 1, j, hi, hj => by
    have e : cat (c :: vs) = c.toList ++ cat vs := by simp [cat]
    have hc := hs c (by simp)
    have := cat_get vs (fun d hd => hs d (by simp [hd])) i j (by simpa using hi) hj
    rw [e, List.getElem?_append_right (by simp; omega)]
    rw [show (i + 1) * 9 + j - c.toList.length = i * 9 + j by simp; omega, this]
    rfl
theorem Reps.sizes {w : World} {F : Nat → Prop} : ∀ {l : List Tm} {vs : List (Array Value)}, Reps w F l vs → ∀ c ∈ vs, c.size = 9
  | [], vs, h, c, hc => by
    have : vs = [] := h
    subst this
    simp at hc
  | _ :: _, _, ⟨d, r, e, h1, h2⟩, c, hc => by
    subst e
    rcases List.mem_cons.1 hc with rfl | hc
    · exact h1.size
    · exact h2.sizes c hc
/-- nine cells in the midst of a block -/
def NineIn (w : World) (b o : Nat) (k n : Int) (re im : Nat) (s : ByteArray) (node boot idn : Int) (bv lv : Value) : Prop :=
  w.cell? ⟨b, o, none⟩ = some (.int .i64 k) ∧ w.cell? ⟨b, o + 1, none⟩ = some (.int .i64 n) ∧ w.cell? ⟨b, o + 2, none⟩ = some (.complex .f64 re im) ∧ w.cell? ⟨b, o + 3, none⟩ = some (.string s) ∧
  w.cell? ⟨b, o + 4, none⟩ = some (.int .i64 node) ∧ w.cell? ⟨b, o + 5, none⟩ = some (.int .u32 boot) ∧ w.cell? ⟨b, o + 6, none⟩ = some (.int .u64 idn) ∧ w.cell? ⟨b, o + 7, none⟩ = some bv ∧ w.cell? ⟨b, o + 8, none⟩ = some lv
theorem NineIn.block {w w' : World} {b o : Nat} {k n : Int} {re im : Nat} {s : ByteArray} {node boot idn : Int} {bv lv : Value} (h : NineIn w b o k n re im s node boot idn bv lv) (e : w'.heap[b]? = w.heap[b]?) : NineIn w' b o k n re im s node boot idn bv lv := by
  have c : ∀ o, w'.cell? ⟨b, o, none⟩ = w.cell? ⟨b, o, none⟩ := fun o => World.cell?_of_block (w := w) e
  unfold NineIn
  simp only [c]
  exact h
/-- a part of a row of parts -/
theorem Row.nine {w : World} {F : Nat → Prop} {lv : Value} {l : List Tm} {vs : List (Array Value)} (h : Row w F 44 9 lv l.length (cat vs)) (hr : Reps w F l vs) {i : Nat} (hi : i < l.length) :
    ∃ g cap, lv = .slice (some ⟨g, 0, none⟩) l.length cap ∧ F g ∧ ∃ hd bv pv, Rep w F l[i] (hdC hd bv pv) ∧ (∃ l2, l[i] = .mk hd l2) ∧ NineIn w g (i * 9) hd.kind hd.n hd.re hd.im hd.s hd.node hd.boot hd.idn bv pv := by
  have hvl := hr.len
  have hrep := hr.at i hi (by omega)
  rcases h.1.2 with ⟨_, h0⟩ | ⟨g, cap, cur, hv, _, hh, _⟩
  · omega
  subst hv
  refine ⟨g, cap, rfl, h.2.1 g rfl, ?_⟩
  have c : ∀ j, j < 9 → w.cell? ⟨g, i * 9 + j, none⟩ = (vs[i]'(by omega))[j]? := fun j hj => by
    have hs := hr.sizes
    rw [← cat_get vs hs i j (by omega) hj]
    have hlen : (cat vs).length = l.length * 9 := h.1.1
    have hlt : i * 9 + j < (cat vs).length := by omega
    have := h.1.cells (g := g) rfl (i * 9 + j) (cat vs)[i * 9 + j] (List.getElem?_eq_getElem hlt)
    rw [List.getElem?_eq_getElem hlt, ← this]
    simp [Addr.add_lit]
  generalize vs[i]'(by omega) = cs at *
  generalize l[i] = t at *
  obtain ⟨hd, l2⟩ := t
  obtain ⟨bv, pv, e, h1, h2⟩ := hrep
  subst e
  exact ⟨hd, bv, pv, ⟨bv, pv, rfl, h1, h2⟩, ⟨l2, rfl⟩, c 0 (by omega), c 1 (by omega), c 2 (by omega), c 3 (by omega), c 4 (by omega), c 5 (by omega), c 6 (by omega), c 7 (by omega), c 8 (by omega)⟩
end Go.Proofs.Ytkpeelhanmekdaa
