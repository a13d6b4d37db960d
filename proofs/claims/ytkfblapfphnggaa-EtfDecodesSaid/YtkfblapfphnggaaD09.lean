/- Several texts in one. -/
import Derived.Test.YtkfblapfphnggaaD08
import Derived.Deep.AppendLies
import Derived.Test.YtkfblapfphnggaaD03
import Derived.Test.YtkfblapfphnggaaD04
import Derived.Test.YtkfblapfphnggaaD07
import Derived.Laws.Rows
/- reader.part at lists: how a round goes, without the walk. -/
namespace Go.Proofs.Ytkfblapfphnggaa
open Go.RowKit
set_option maxRecDepth 100000

theorem infoTm : (Try.prog.info? 31).map (fun i => (i.zero, i.size, i.bytes)) = some (some (.agg zC), 9, 120) := by kernel_rfl
/-- what follows is read behind what was -/
def behind (l : List Tm) : Except Int (List Tm × St) → Except Int (List Tm × St)
  | .error e => .error e
  | .ok (l', s) => .ok (l ++ l', s)
theorem many_err {sub : Rd Tm} {k j : Nat} {s sj : St} {l : List Tm} {x : Int} (h : manyP sub k s = behind l (manyP sub (k - j) sj)) (hj : j < k) (hs : sub sj = .error x) : manyP sub k s = .error x := by
  rw [h, show k - j = (k - (j + 1)) + 1 by omega]
  simp [manyP, hs, behind]
theorem many_ok {sub : Rd Tm} {k j : Nat} {s sj s' : St} {l : List Tm} {t : Tm} (h : manyP sub k s = behind l (manyP sub (k - j) sj)) (hj : j < k) (hs : sub sj = .ok (t, s')) : manyP sub k s = behind (l ++ [t]) (manyP sub (k - (j + 1)) s') := by
  rw [h, show k - j = (k - (j + 1)) + 1 by omega]
  simp only [manyP, hs]
  cases manyP sub (k - (j + 1)) s' with
  | error e => rfl
  | ok y => simp [behind]
theorem many_end {sub : Rd Tm} {k : Nat} {s sj : St} {l : List Tm} (h : manyP sub k s = behind l (manyP sub (k - k) sj)) : manyP sub k s = .ok (l, sj) := by
  rw [h, Nat.sub_self]
  simp [manyP, behind]
/-- blocks of parts that were read: new, none of the reader's, none of the row's -/
def ownL (T R p m : Nat) (v lv : Value) (b : Nat) : Prop := own (T + 1) R p m v b ∧ lv.ownBlock ≠ some b
/-- the nine cells of a part of a list -/
abbrev lC (K : Int) (lv : Value) : Array Value := #[.int .i64 K, .int .i64 0, .complex .f64 0 0, .string ⟨#[]⟩, .int .i64 0, .int .u32 0, .int .u64 0, nilV, lv]
/-- HOW A ROUND OF THE LIST'S LOOP BEGINS -/
structure LsAt (R p m N T j : Nat) (K : Int) (a : Option Addr) (c : Nat) (v vj bv : Value) (bs : List UInt8) (sj : St) (l : List Tm) (vs : List (Array Value)) (w wr : World) : Prop where
  len : l.length = j
  tb : wr.heap[T]? = some (.cells (lC K (.slice a j c)) 31 (0, 0))
  nb : wr.heap[N]? = some (.cells zC 31 (0, 0))
  row : wr.ownsRow (T + 1) 31 9 (.slice a j c) j (cat vs)
  none0 : j = 0 → Value.slice a j c = nilV
  reps : Reps wr (ownL T R p m vj (.slice a j c)) l vs
  far : ∀ b, (Value.slice a j c).ownBlock = some b → ¬ foot R p m vj b
  rd : RdAt wr R p m vj bv bs sj
  turn : Turn (foot R p m v) w wr
  vv : vj.ownBlock = v.ownBlock ∨ ∀ b, vj.ownBlock = some b → T < b
  nms : sj.names.length ≤ sj.n
/-- behind the reader of the next part -/
structure LsMid (R p m N T j : Nat) (K : Int) (a : Option Addr) (c : Nat) (v v' bv : Value) (bs : List UInt8) (s' : St) (l : List Tm) (vs : List (Array Value)) (t : Tm) (cs : Array Value) (z : Nat) (w w7 : World) : Prop where
  tb : w7.heap[T]? = some (.cells (lC K (.slice a j c)) 31 (0, 0))
  nb : w7.heap[N]? = some (.cells zC 31 (0, 0))
  row : w7.ownsRow (T + 1) 31 9 (.slice a j c) j (cat vs)
  reps : Reps w7 (fun b => ownL T R p m v' (.slice a j c) b ∧ b < z) l vs
  far : ∀ b, (Value.slice a j c).ownBlock = some b → ¬ foot R p m v' b
  rd : RdAt w7 R p m v' bv bs s'
  turn : Turn (foot R p m v) w w7
  vv : v'.ownBlock = v.ownBlock ∨ ∀ b, v'.ownBlock = some b → T < b
  rep : Rep w7 (own z R p m v') t cs
  zT : T < z
  zg : ∀ b, (Value.slice a j c).ownBlock = some b → b < z
  zs : z ≤ w7.heap.size
theorem foot_next {R p m z b : Nat} {vj v' : Value} (hv : v'.ownBlock = vj.ownBlock ∨ ∀ b, v'.ownBlock = some b → z ≤ b) (hb : b < z) (h : ¬ foot R p m vj b) : ¬ foot R p m v' b := by
  rintro (e | e | e | e)
  · exact h (.inl e)
  · exact h (.inr (.inl e))
  · exact h (.inr (.inr (.inl e)))
  · rcases hv with hv | hv
    · exact h (.inr (.inr (.inr (hv.symm.trans e))))
    · have := hv b e; omega
theorem LsAt.mid {R p m N T j c : Nat} {K : Int} {a : Option Addr} {v vj v' bv : Value} {bs : List UInt8} {s0 sj s' : St} {l : List Tm} {vs : List (Array Value)} {t : Tm} {cs : Array Value} {w wr w7 : World} (H : RdAt w R p m v bv bs s0) (hwT : w.heap.size ≤ T) (hNT : N < T) (hwN : w.heap.size ≤ N)
    (h : LsAt R p m N T j K a c v vj bv bs sj l vs w wr) (hR7 : RdAt w7 R p m v' bv bs s') (hT7 : Turn (foot R p m vj) wr.drew w7) (hv7 : v'.ownBlock = vj.ownBlock ∨ ∀ b, v'.ownBlock = some b → wr.drew.heap.size ≤ b) (hrep : Rep w7 (own wr.drew.heap.size R p m v') t cs) :
    LsMid R p m N T j K a c v v' bv bs s' l vs t cs wr.drew.heap.size w w7 := by
  have hv7' : v'.ownBlock = vj.ownBlock ∨ ∀ b, v'.ownBlock = some b → wr.heap.size ≤ b := hv7
  have hTf : ¬ foot R p m vj T := fun hf => apartT H hwT h.vv T (.inl hf) rfl
  have hNf : ¬ foot R p m vj N := fun hf => by
    rcases hf with e | e | e | e
    · have := H.lt N (.inl e); omega
    · have := H.lt N (.inr (.inl e)); omega
    · have := H.lt N (.inr (.inr (.inl e))); omega
    · rcases h.vv with hv | hv
      · have := H.lt N (.inr (.inr (.inr (hv.symm.trans e)))); omega
      · have := hv N e; omega
  have hTl := blk_lt h.tb
  refine ⟨(hT7.block T hTl hTf).trans h.tb, (hT7.block N (blk_lt h.nb) hNf).trans h.nb, row_same h.row (fun b e hb => hT7.block b hb (h.far b e)), ?_, ?_, hR7, h.turn.andThen ((Turn.refl _ wr).drew.trans hT7) ?_, ?_, hrep, hTl, fun b e => (h.row.lt b e).2, hT7.size⟩
  · have h0 := Reps.mono (F' := fun b => ownL T R p m vj (.slice a j c) b ∧ b < wr.heap.size) (fun b e hb => ⟨e, hb⟩) _ _ h.reps
    have h2 := Reps.keep (w := wr) (w' := w7) (fun b e hb => (show w7.heap[b]? = wr.heap[b]? from hT7.block b hb e.1.1.2)) _ _ h0
    exact Reps.mono (fun b e _ => ⟨⟨⟨e.1.1.1, foot_next hv7' e.2 e.1.1.2⟩, e.1.2⟩, e.2⟩) _ _ h2
  · intro b e
    exact foot_next hv7' (h.row.lt b e).2 (h.far b e)
  · rintro i (e | e | e | e)
    · exact .inl (.inl e)
    · exact .inl (.inr (.inl e))
    · exact .inl (.inr (.inr (.inl e)))
    · rcases h.vv with hv | hv
      · exact .inl (.inr (.inr (.inr (hv.symm.trans e))))
      · have := hv i e; exact .inr (by omega)
  · rcases hv7' with hv | hv
    · rw [hv]; exact h.vv
    · exact .inr fun b e => by have := hv b e; omega
theorem LsMid.next {R p m N T j c c8 z : Nat} {K : Int} {a a8 : Option Addr} {v v' bv : Value} {bs : List UInt8} {s0 s' : St} {l : List Tm} {vs : List (Array Value)} {t : Tm} {cs : Array Value} {w w7 w8 : World} {o : Obj} (H : RdAt w R p m v bv bs s0) (hwT : w.heap.size ≤ T) (hNT : N < T)
    (h : LsMid R p m N T j K a c v v' bv bs s' l vs t cs z w w7) (hl : l.length = j) (hn : s'.names.length ≤ s'.n) (hg : (w7.alloc o).grownBy w8 (Value.slice a j c).ownBlock) (ho8 : w8.ownsRow (T + 1) 31 9 (.slice a8 (j + 1) c8) (j + 1) (cat vs ++ cs.toList))
    (hown : (Value.slice a8 (j + 1) c8).ownBlock = (Value.slice a j c).ownBlock ∨ (Value.slice a8 (j + 1) c8).ownBlock = some (w7.alloc o).heap.size) :
    LsAt R p m N T (j + 1) K a8 c8 v v' bv bs s' (l ++ [t]) (vs ++ [cs]) w (w8.setCell ⟨T, 8, none⟩ (.slice a8 (j + 1) c8)) := by
  obtain ⟨k1, k2, k3⟩ := app_keep h.row hg
  have hTl := blk_lt h.tb
  have hNl := blk_lt h.nb
  have hset : ∀ i, ¬ i = T → (w8.setCell ⟨T, 8, none⟩ (.slice a8 (j + 1) c8)).heap[i]? = w8.heap[i]? := fun i hi => Below.heap_setCell w8 ⟨T, 8, none⟩ _ i hi
  have hown' : (Value.slice a8 (j + 1) c8).ownBlock = (Value.slice a j c).ownBlock ∨ (Value.slice a8 (j + 1) c8).ownBlock = some (w7.heap.size + 1) := by simpa using hown
  have hne : ∀ b, b < w7.heap.size → (Value.slice a j c).ownBlock ≠ some b → (Value.slice a8 (j + 1) c8).ownBlock ≠ some b := fun b hb h1 h2 => by
    rcases hown' with e | e
    · exact h1 (e.symm.trans h2)
    · have := e.symm.trans h2
      cases this
      omega
  refine ⟨by simp [hl], heap_setCell_at ((k1 T (by omega) hTl).trans h.tb), (hset N (by omega)).trans ((k1 N (by omega) hNl).trans h.nb), ?_, fun e => by omega, ?_, ?_, rd_setT H (h.rd.keep fun i hi hil => k3.block i hil ?_) hwT h.vv, turn_setT (h.turn.andThen k3 fun i e => .inr ?_) hwT, h.vv, hn⟩
  · rw [cat_snoc]
    exact row_same ho8 (fun b e hb => hset b (by have := (ho8.lt b e).1; omega))
  · refine Reps.snoc ?_ ?_
    · have h1 := Rep.mono (F' := fun b => own z R p m v' b ∧ b < w7.heap.size) (fun b e hb => ⟨e, hb⟩) _ _ h.rep
      have h2 := Rep.keep (w' := w8.setCell ⟨T, 8, none⟩ (.slice a8 (j + 1) c8)) (fun b e hb => (hset b (by have := e.1.1; have := h.zT; omega)).trans (k3.block b hb (fun e2 => by have := h.zg b e2; have := e.1.1; omega))) _ _ h1
      exact Rep.mono (fun b e _ => ⟨⟨by have := e.1.1; have := h.zT; omega, e.1.2⟩, hne b e.2 (fun e2 => by have := h.zg b e2; have := e.1.1; omega)⟩) _ _ h2
    · have h2 := Reps.keep (w' := w8.setCell ⟨T, 8, none⟩ (.slice a8 (j + 1) c8)) (fun b e hb => (hset b (by have := e.1.1.1; omega)).trans (k3.block b hb e.1.2)) _ _ h.reps
      exact Reps.mono (fun b e _ => ⟨e.1.1, hne b (by have := e.2; have := h.zs; omega) e.1.2⟩) _ _ h2
  · intro b e hf
    rcases hown' with e2 | e2
    · exact h.far b (e2.symm.trans e) hf
    · have e3 := e2.symm.trans e
      cases e3
      have := h.rd.lt _ hf
      omega
  · intro e
    rcases hi with hi | ⟨hi, hp⟩
    · exact h.far i e hi
    · have := H.blt i hi hp
      have := (h.row.lt i e).1
      omega
  · have := (h.row.lt i e).1
    omega
theorem ls_turn {R p m T : Nat} {v vj : Value} {w wr w7 : World} (hwT : w.heap.size ≤ T) (hv : vj.ownBlock = v.ownBlock ∨ ∀ b, vj.ownBlock = some b → T < b) (h : Turn (foot R p m v) w wr) (h7 : Turn (foot R p m vj) wr.drew w7) : Turn (foot R p m v) w w7 := by
  refine h.andThen ((Turn.refl _ wr).drew.trans h7) ?_
  rintro i (e | e | e | e)
  · exact .inl (.inl e)
  · exact .inl (.inr (.inl e))
  · exact .inl (.inr (.inr (.inl e)))
  · rcases hv with hv | hv
    · exact .inl (.inr (.inr (.inr (hv.symm.trans e))))
    · have := hv i e; exact .inr (by omega)
theorem ls_rep {R p m N T j c : Nat} {K : Nat} {a : Option Addr} {v vj bv : Value} {bs : List UInt8} {sj : St} {l : List Tm} {vs : List (Array Value)} {w wr : World} (hNT : N < T) (h : LsAt R p m N T j K a c v vj bv bs sj l vs w wr) :
    Rep wr (own (N + 1) R p m vj) (.mk { kind := K } l) (hdC { kind := K } nilV (.slice a j c)) := by
  have hl := h.len
  refine ⟨nilV, .slice a j c, rfl, Row.nil _ _ _ _, vs, ⟨?_, fun b e => ⟨?_, h.far b e⟩, fun e => h.none0 (by omega)⟩, Reps.mono (fun b e _ => ⟨by have := e.1.1; omega, e.1.2⟩) _ _ h.reps⟩
  · rw [hl]
    exact owns_mono h.row (Nat.zero_le _)
  · have := (h.row.lt b e).1
    omega
theorem rep_nine {w : World} {F : Nat → Prop} {t : Tm} {c : Array Value} (h : Rep w F t c) : ∃ (q0 q1 : Int) (q2 q3 : Nat) (q4 : ByteArray) (q5 q6 q7 : Int) (q8 : Option Addr) (q9 q10 : Nat) (q11 : Option Addr) (q12 q13 : Nat),
    c = #[.int .i64 q0, .int .i64 q1, .complex .f64 q2 q3, .string q4, .int .i64 q5, .int .u32 q6, .int .u64 q7, .slice q8 q9 q10, .slice q11 q12 q13] ∧ True := by
  obtain ⟨hd, l⟩ := t
  obtain ⟨bv, lv, rfl, hb, vs, hlv, _⟩ := h
  obtain ⟨a1, c1, rfl⟩ := row_slice hb.1
  obtain ⟨a2, c2, rfl⟩ := row_slice hlv.1
  exact ⟨_, _, _, _, _, _, _, _, _, _, _, _, _, _, rfl, trivial⟩
theorem nine_one (q0 q1 : Int) (q2 q3 : Nat) (q4 : ByteArray) (q5 q6 q7 : Int) (q8 : Option Addr) (q9 q10 : Nat) (q11 : Option Addr) (q12 q13 : Nat) :
    ∀ u ∈ (#[Value.int .i64 q0, .int .i64 q1, .complex .f64 q2 q3, .string q4, .int .i64 q5, .int .u32 q6, .int .u64 q7, .slice q8 q9 q10, .slice q11 q12 q13] : Array Value).toList, u.oneCell' = true := by
  intro u hu
  simp at hu
  rcases hu with rfl | rfl | rfl | rfl | rfl | rfl | rfl | rfl | rfl <;> rfl
end Go.Proofs.Ytkfblapfphnggaa
/- The parts of a term in order: plain facts. -/
namespace Go.Proofs.Ytkfblapfphnggaa
open Go.RowKit
set_option maxRecDepth 100000

mutual
/-- a term's parts, each with how many it has itself -/
def flatT : Tm → List (Hd × Nat)
  | .mk h l => (h, l.length) :: flatTs l
def flatTs : List Tm → List (Hd × Nat)
  | [] => []
  | t :: l => flatT t ++ flatTs l
end
theorem flatTs_app : ∀ (a b : List Tm), flatTs (a ++ b) = flatTs a ++ flatTs b
  | [], b => by simp [flatTs]
  | t :: a, b => by simp only [List.cons_append, flatTs, flatTs_app a b, List.append_assoc]
theorem flatTs_take {l : List Tm} {i : Nat} (h : i < l.length) : flatTs (l.take (i + 1)) = flatTs (l.take i) ++ flatT l[i] := by
  rw [List.take_succ_eq_append_getElem h, flatTs_app]
  simp [flatTs]
theorem flatTs_le {l : List Tm} (i : Nat) : (flatTs (l.take i)).length ≤ (flatTs l).length := by
  have := congrArg List.length (flatTs_app (l.take i) (l.drop i))
  rw [List.take_append_drop, List.length_append] at this
  omega
theorem flatT_pos : ∀ (t : Tm), 0 < (flatT t).length
  | .mk h l => by simp [flatT]
theorem flatTs_many : ∀ (l : List Tm), l.length ≤ (flatTs l).length
  | [] => by simp
  | t :: l => by have := flatT_pos t; have := flatTs_many l; simp only [flatTs, List.length_append, List.length_cons]; omega
mutual
theorem flatT_le : ∀ (t : Tm), (flatT t).length ≤ sizeT t
  | .mk h l => by have := flatTs_le2 l; simp only [flatT, sizeT, List.length_cons]; omega
theorem flatTs_le2 : ∀ (l : List Tm), (flatTs l).length ≤ sizeTs l
  | [] => by simp [flatTs, sizeTs]
  | t :: l => by have := flatT_le t; have := flatTs_le2 l; simp only [flatTs, sizeTs, List.length_append]; omega
end
/-- these nine cells are a part's -/
def PartOk (w : World) (F : Nat → Prop) (x : Hd × Nat) (c : Array Value) : Prop := ∃ bv a n, c = hdC x.1 bv (.slice a x.2 n) ∧ Row w F 5 1 bv x.1.b.length (x.1.b.map cellB)
def PartsOk (w : World) (F : Nat → Prop) : List (Hd × Nat) → List (Array Value) → Prop
  | [], ps => ps = []
  | x :: l, ps => ∃ c r, ps = c :: r ∧ PartOk w F x c ∧ PartsOk w F l r
theorem PartsOk.app {w : World} {F : Nat → Prop} : ∀ {a b : List (Hd × Nat)} {p q : List (Array Value)}, PartsOk w F a p → PartsOk w F b q → PartsOk w F (a ++ b) (p ++ q)
  | [], _, _, _, h, k => by
    have e : _ = [] := h
    subst e
    exact k
  | _ :: _, _, _, _, ⟨c, r, e, h1, h2⟩, k => by
    subst e
    exact ⟨c, _, rfl, h1, h2.app k⟩
theorem PartsOk.keep {w w' : World} {F : Nat → Prop} (hs : ∀ b, F b → b < w.heap.size → w'.heap[b]? = w.heap[b]?) : ∀ {a : List (Hd × Nat)} {p : List (Array Value)}, PartsOk w F a p → PartsOk w' F a p
  | [], _, h => h
  | _ :: _, _, ⟨c, r, e, ⟨bv, a, n, e2, h1⟩, h2⟩ => ⟨c, r, e, ⟨bv, a, n, e2, h1.keep hs⟩, h2.keep hs⟩
theorem PartsOk.len {w : World} {F : Nat → Prop} : ∀ {a : List (Hd × Nat)} {p : List (Array Value)}, PartsOk w F a p → p.length = a.length
  | [], _, h => by
    have e : _ = [] := h
    subst e
    rfl
  | _ :: _, _, ⟨c, r, e, _, h2⟩ => by
    subst e
    simp [h2.len]
theorem PartsOk.at {w : World} {F : Nat → Prop} : ∀ {a : List (Hd × Nat)} {p : List (Array Value)}, PartsOk w F a p → ∀ (i : Nat) (h : i < a.length) (h' : i < p.length), PartOk w F a[i] p[i]
  | [], _, _, i, h, _ => absurd h (by simp)
  | _ :: _, _, ⟨_, _, e, h1, h2⟩, 0, _, _ => by subst e; exact h1
  | _ :: l, _, ⟨_, _, e, h1, h2⟩, i + 1, h, h' => by
    subst e
    exact h2.at i (by simpa using h) (by simpa using h')
theorem PartOk.nine {w : World} {F : Nat → Prop} {x : Hd × Nat} {c : Array Value} (h : PartOk w F x c) : c.size = 9 ∧ ∀ u ∈ c.toList, u.oneCell' = true := by
  obtain ⟨bv, a, n, rfl, hr⟩ := h
  obtain ⟨a2, c2, rfl⟩ := row_slice hr.1
  exact ⟨rfl, nine_one _ _ _ _ _ _ _ _ _ _ _ _ _ _⟩
theorem PartsOk.one {w : World} {F : Nat → Prop} : ∀ {a : List (Hd × Nat)} {p : List (Array Value)}, PartsOk w F a p → (∀ c ∈ p, c.size = 9) ∧ ∀ u ∈ cat p, u.oneCell' = true
  | [], _, h => by
    have e : _ = [] := h
    subst e
    exact ⟨by simp, by simp [cat]⟩
  | _ :: _, _, ⟨c, r, e, h1, h2⟩ => by
    subst e
    obtain ⟨a1, a2⟩ := h1.nine
    obtain ⟨b1, b2⟩ := h2.one
    refine ⟨fun d hd => ?_, fun u hu => ?_⟩
    · rcases List.mem_cons.1 hd with rfl | hd
      · exact a1
      · exact b1 d hd
    · have e : cat (c :: r) = c.toList ++ cat r := by simp [cat]
      rw [e] at hu
      rcases List.mem_append.1 hu with hu | hu
      · exact a2 u hu
      · exact b2 u hu
theorem al2_fst {w5 : World} {o1 o2 : Array Value} {t1 t2 : TypeId} : ((w5.alloc (.cells o1 t1)).alloc (.cells o2 t2)).heap[w5.heap.size]? = some (.cells o1 t1 (0, 0)) := (Below.heap_alloc _ _ _ (by simp)).trans (heap_new w5 _)
theorem cat_app (p q : List (Array Value)) : cat (p ++ q) = cat p ++ cat q := by simp [cat]
theorem cat_cons (c : Array Value) (q : List (Array Value)) : cat (c :: q) = c.toList ++ cat q := by simp [cat]
/-- a row of the call's own, as a source -/
theorem src_owns {P : Program} {w : World} {base e tx e' size n : Nat} {v : Value} {xs : List Value} (hk : P.underlying tx = some (.slice e')) (h : w.ownsRow base e size v n xs) (h1 : ∀ u ∈ xs, u.oneCell' = true) : Src P size tx v n xs w := by
  have hl := h.1
  rcases h.2 with ⟨rfl, h0⟩ | ⟨g, cap, cur, rfl, _⟩
  · subst h0
    have : xs = [] := List.eq_nil_of_length_eq_zero (by omega)
    subst this
    exact Src.ofNil _ hk 0
  · exact Src.ofSlice _ hk _ _ _ _ hl (h.cells (g := g) rfl) h1
/-- a part of a row of parts -/
theorem owns_nine {w : World} {F : Nat → Prop} {base e : Nat} {v : Value} {xs : List (Hd × Nat)} {ps : List (Array Value)} (h : w.ownsRow base e 9 v xs.length (cat ps)) (hp : PartsOk w F xs ps) {i : Nat} (hi : i < xs.length) :
    ∃ g cap, v = .slice (some ⟨g, 0, none⟩) xs.length cap ∧ base ≤ g ∧ g < w.heap.size ∧ ∃ bv a n, Row w F 5 1 bv xs[i].1.b.length (xs[i].1.b.map cellB) ∧ NineIn w g (i * 9) xs[i].1.kind xs[i].1.n xs[i].1.re xs[i].1.im xs[i].1.s xs[i].1.node xs[i].1.boot xs[i].1.idn bv (.slice a xs[i].2 n) := by
  have hvl := hp.len
  have hpt := hp.at i hi (by omega)
  rcases h.2 with ⟨_, h0⟩ | ⟨g, cap, cur, hv, hb, hh, _⟩
  · omega
  subst hv
  refine ⟨g, cap, rfl, hb, (Array.getElem?_eq_some_iff.1 hh).1, ?_⟩
  have c : ∀ j, j < 9 → w.cell? ⟨g, i * 9 + j, none⟩ = (ps[i]'(by omega))[j]? := fun j hj => by
    have hs := hp.one.1
    rw [← cat_get ps hs i j (by omega) hj]
    have hlen : (cat ps).length = xs.length * 9 := h.1
    have hlt : i * 9 + j < (cat ps).length := by omega
    have := h.cells (g := g) rfl (i * 9 + j) (cat ps)[i * 9 + j] (List.getElem?_eq_getElem hlt)
    rw [List.getElem?_eq_getElem hlt, ← this]
    simp [Addr.add_lit]
  generalize ps[i]'(by omega) = cs at *
  generalize xs[i] = x at *
  obtain ⟨bv, a, n, rfl, hr⟩ := hpt
  exact ⟨bv, a, n, hr, c 0 (by omega), c 1 (by omega), c 2 (by omega), c 3 (by omega), c 4 (by omega), c 5 (by omega), c 6 (by omega), c 7 (by omega), c 8 (by omega)⟩
end Go.Proofs.Ytkfblapfphnggaa
/- The document's reader: fail, must. -/
namespace Go.Proofs.Ytkfblapfphnggaa
open Go.RowKit
set_option maxRecDepth 100000

/-- a state of the document's reader -/
abbrev stV (ba : Option Addr) (bl bc : Nat) (i n : Int) (na : Option Addr) (nl nc : Nat) (code : Int) : Value := .agg #[.slice ba bl bc, .int .i64 i, .int .i64 n, .slice na nl nc, .int .i64 code]
theorem infoS : (Try.prog.info? 57).map (·.size) = some 5 := by kernel_rfl
theorem infoT9' : (Try.prog.info? 31).map (·.size) = some 9 := by kernel_rfl
/-- a block of five cells -/
def FiveAt (w : World) (b : Nat) (c0 c1 c2 c3 c4 : Value) : Prop := w.cell? ⟨b, 0, none⟩ = some c0 ∧ w.cell? ⟨b, 1, none⟩ = some c1 ∧ w.cell? ⟨b, 2, none⟩ = some c2 ∧ w.cell? ⟨b, 3, none⟩ = some c3 ∧ w.cell? ⟨b, 4, none⟩ = some c4
theorem FiveAt.of_block {w : World} {b : Nat} {c0 c1 c2 c3 c4 : Value} {t : TypeId} (h : w.heap[b]? = some (.cells #[c0, c1, c2, c3, c4] t (0, 0))) : FiveAt w b c0 c1 c2 c3 c4 := by
  refine ⟨?_, ?_, ?_, ?_, ?_⟩ <;> simp [World.cell?, h]
/-- five stores one after the other -/
abbrev set5 (w : World) (b : Nat) (d0 d1 d2 d3 d4 : Value) : World := ((((w.setCell ⟨b, 0, none⟩ d0).setCell ⟨b, 1, none⟩ d1).setCell ⟨b, 2, none⟩ d2).setCell ⟨b, 3, none⟩ d3).setCell ⟨b, 4, none⟩ d4
theorem five_set {w : World} {b : Nat} {c0 c1 c2 c3 c4 d0 d1 d2 d3 d4 : Value} {t : TypeId} (h : w.heap[b]? = some (.cells #[c0, c1, c2, c3, c4] t (0, 0))) :
    (set5 w b d0 d1 d2 d3 d4).heap[b]? = some (.cells #[d0, d1, d2, d3, d4] t (0, 0)) := by
  have a0 : (w.setCell ⟨b, 0, none⟩ d0).heap[b]? = some (.cells #[d0, c1, c2, c3, c4] t (0, 0)) := heap_setCell_at h
  show (((((w.setCell ⟨b, 0, none⟩ d0).setCell ⟨b, 1, none⟩ d1).setCell ⟨b, 2, none⟩ d2).setCell ⟨b, 3, none⟩ d3).setCell ⟨b, 4, none⟩ d4).heap[b]? = _
  generalize w.setCell ⟨b, 0, none⟩ d0 = x0 at *
  have a1 : (x0.setCell ⟨b, 1, none⟩ d1).heap[b]? = some (.cells #[d0, d1, c2, c3, c4] t (0, 0)) := heap_setCell_at a0
  generalize x0.setCell ⟨b, 1, none⟩ d1 = x1 at *
  have a2 : (x1.setCell ⟨b, 2, none⟩ d2).heap[b]? = some (.cells #[d0, d1, d2, c3, c4] t (0, 0)) := heap_setCell_at a1
  generalize x1.setCell ⟨b, 2, none⟩ d2 = x2 at *
  have a3 : (x2.setCell ⟨b, 3, none⟩ d3).heap[b]? = some (.cells #[d0, d1, d2, d3, c4] t (0, 0)) := heap_setCell_at a2
  generalize x2.setCell ⟨b, 3, none⟩ d3 = x3 at *
  exact heap_setCell_at a3
theorem five_turn (w : World) (b : Nat) (d0 d1 d2 d3 d4 : Value) : Turn (fun i => i = b) w (set5 w b d0 d1 d2 d3 d4) :=
  ((((Turn.setCell w b 0 d0).trans (Turn.setCell _ b 1 d1)).trans (Turn.setCell _ b 2 d2)).trans (Turn.setCell _ b 3 d3)).trans (Turn.setCell _ b 4 d4)
theorem heap_new_at {w : World} {o : Obj} {k : Nat} (h : w.heap.size = k) : (w.alloc o).heap[k]? = some o := by
  subst h
  exact heap_new w o
theorem rfail0 (ba : Option Addr) (bl bc : Nat) (i n : Int) (na : Option Addr) (nl nc : Nat) (c : Int) (w : World) : Calls Try.prog 19 #[stV ba bl bc i n na nl nc 0, .int .i64 c] w (RB w (stV ba bl bc i n na nl nc c)) := by
  go_enter Try.func19, Try.ntmps19
  go_wp2_with fail
  exact bodyPost_ret (v := stV ba bl bc i n na nl nc c) (by simp [results, Try.results19, go_sem]) rfl ⟨rfl, ((Below.refl w.heap.size w).alloc (Nat.le_refl _) _).alloc (by simp) _⟩
theorem rfail1 (ba : Option Addr) (bl bc : Nat) (i n : Int) (na : Option Addr) (nl nc : Nat) (c0 c : Int) (hc : ¬ c0 = 0) (w : World) : Calls Try.prog 19 #[stV ba bl bc i n na nl nc c0, .int .i64 c] w (RB w (stV ba bl bc i n na nl nc c0)) := by
  have h1 : (c0 == 0) = false := beq_eq_false_iff_ne.2 hc
  go_enter Try.func19, Try.ntmps19
  go_wp2_with fail
  exact bodyPost_ret (v := stV ba bl bc i n na nl nc c0) (by simp [results, Try.results19, go_sem]) rfl ⟨rfl, ((Below.refl w.heap.size w).alloc (Nat.le_refl _) _).alloc (by simp) _⟩
theorem rmust_yes (ba : Option Addr) (bl bc : Nat) (i n : Int) (na : Option Addr) (nl nc : Nat) (c : Int) (w : World) : Calls Try.prog 32 #[stV ba bl bc i n na nl nc c, .bool true] w (RB w (stV ba bl bc i n na nl nc c)) := by
  go_enter Try.func32, Try.ntmps32
  go_wp2_with fail
  exact bodyPost_ret (v := stV ba bl bc i n na nl nc c) (by simp [results, Try.results32, go_sem]) rfl ⟨rfl, ((Below.refl w.heap.size w).alloc (Nat.le_refl _) _).alloc (by simp) _⟩
theorem rmust_no0 (ba : Option Addr) (bl bc : Nat) (i n : Int) (na : Option Addr) (nl nc : Nat) (w : World) : Calls Try.prog 32 #[stV ba bl bc i n na nl nc 0, .bool false] w (RB w (stV ba bl bc i n na nl nc 73)) := by
  go_enter Try.func32, Try.ntmps32
  go_wp2_with fail
  have hXY : ¬ w.heap.size = w.heap.size + 1 := by omega
  have HX1 : Hid (((w.alloc (.cells #[.slice ba bl bc, .int .i64 i, .int .i64 n, .slice na nl nc, .int .i64 0] 57)).alloc (.cells #[nilV, .int .i64 0, .int .i64 0, nilV, .int .i64 0] 57)).heap[w.heap.size]? = some (.cells #[.slice ba bl bc, .int .i64 i, .int .i64 n, .slice na nl nc, .int .i64 0] 57 (0, 0))) := (Below.heap_alloc _ _ _ (by simp)).trans (heap_new w _)
  have HY1 : Hid (((w.alloc (.cells #[.slice ba bl bc, .int .i64 i, .int .i64 n, .slice na nl nc, .int .i64 0] 57)).alloc (.cells #[nilV, .int .i64 0, .int .i64 0, nilV, .int .i64 0] 57)).heap[w.heap.size + 1]? = some (.cells #[nilV, .int .i64 0, .int .i64 0, nilV, .int .i64 0] 57 (0, 0))) := heap_new_at (by simp)
  have HB1 := Lib.hid (((Below.refl w.heap.size w).alloc (Nat.le_refl _) (.cells #[.slice ba bl bc, .int .i64 i, .int .i64 n, .slice na nl nc, .int .i64 0] 57)).alloc (by simp) (.cells #[nilV, .int .i64 0, .int .i64 0, nilV, .int .i64 0] 57))
  generalize ((w.alloc (.cells #[.slice ba bl bc, .int .i64 i, .int .i64 n, .slice na nl nc, .int .i64 0] 57)).alloc (.cells #[nilV, .int .i64 0, .int .i64 0, nilV, .int .i64 0] 57)) = w1 at *
  refine (rfail0 _ _ _ _ _ _ _ _ 73 _).mono ?_
  rintro e w2 ⟨rfl, hb⟩
  have HX2 := Lib.hid ((hb.block _ (blk_lt HX1.out)).trans HX1.out)
  have HY2 := Lib.hid ((hb.block _ (blk_lt HY1.out)).trans HY1.out)
  have HB2 := Lib.hid (HB1.out.trans (hb.mono HB1.out.size))
  clear hb HB1 HX1 HY1
  go_wp2_with (refine wpList_store_row rfl 57 (.tmp 4) (.tmp 8) rfl (w.heap.size + 1) #[.slice ba bl bc, .int .i64 i, .int .i64 n, .slice na nl nc, .int .i64 73] rfl rfl 57 #[nilV, .int .i64 0, .int .i64 0, nilV, .int .i64 0] HY2.out infoS rfl (by simp [Array.all, Value.oneCell']) ?_)
  have HY3 := Lib.hid (setRow_heap w2 (w.heap.size + 1) #[nilV, .int .i64 0, .int .i64 0, nilV, .int .i64 0] #[.slice ba bl bc, .int .i64 i, .int .i64 n, .slice na nl nc, .int .i64 73] 57 (0, 0) HY2.out)
  have HX3 := Lib.hid ((setRow_other w2 (w.heap.size + 1) (w.heap.size) #[.slice ba bl bc, .int .i64 i, .int .i64 n, .slice na nl nc, .int .i64 73] (by omega)).trans HX2.out)
  have HB3 := Lib.hid (HB2.out.trans ((setRow_turn w2 (w.heap.size + 1) #[.slice ba bl bc, .int .i64 i, .int .i64 n, .slice na nl nc, .int .i64 73]).below HB2.out.size (fun i e => by omega)))
  clear HB2 HY2 HX2
  generalize w2.setRow (w.heap.size + 1) #[.slice ba bl bc, .int .i64 i, .int .i64 n, .slice na nl nc, .int .i64 73] = w3 at *
  go_wp2_with fail
  obtain ⟨k0, k1, k2, k3, k4⟩ := FiveAt.of_block HY3.out
  exact bodyPost_ret (v := stV ba bl bc i n na nl nc 73) (by simp [results, Try.results32, go_sem, k0, k1, k2, k3, k4]) rfl ⟨rfl, HB3.out⟩
theorem rmust_no1 (ba : Option Addr) (bl bc : Nat) (i n : Int) (na : Option Addr) (nl nc : Nat) (c : Int) (hc : ¬ c = 0) (w : World) : Calls Try.prog 32 #[stV ba bl bc i n na nl nc c, .bool false] w (RB w (stV ba bl bc i n na nl nc c)) := by
  go_enter Try.func32, Try.ntmps32
  go_wp2_with fail
  have hXY : ¬ w.heap.size = w.heap.size + 1 := by omega
  have HX1 : Hid (((w.alloc (.cells #[.slice ba bl bc, .int .i64 i, .int .i64 n, .slice na nl nc, .int .i64 c] 57)).alloc (.cells #[nilV, .int .i64 0, .int .i64 0, nilV, .int .i64 0] 57)).heap[w.heap.size]? = some (.cells #[.slice ba bl bc, .int .i64 i, .int .i64 n, .slice na nl nc, .int .i64 c] 57 (0, 0))) := (Below.heap_alloc _ _ _ (by simp)).trans (heap_new w _)
  have HY1 : Hid (((w.alloc (.cells #[.slice ba bl bc, .int .i64 i, .int .i64 n, .slice na nl nc, .int .i64 c] 57)).alloc (.cells #[nilV, .int .i64 0, .int .i64 0, nilV, .int .i64 0] 57)).heap[w.heap.size + 1]? = some (.cells #[nilV, .int .i64 0, .int .i64 0, nilV, .int .i64 0] 57 (0, 0))) := heap_new_at (by simp)
  have HB1 := Lib.hid (((Below.refl w.heap.size w).alloc (Nat.le_refl _) (.cells #[.slice ba bl bc, .int .i64 i, .int .i64 n, .slice na nl nc, .int .i64 c] 57)).alloc (by simp) (.cells #[nilV, .int .i64 0, .int .i64 0, nilV, .int .i64 0] 57))
  generalize ((w.alloc (.cells #[.slice ba bl bc, .int .i64 i, .int .i64 n, .slice na nl nc, .int .i64 c] 57)).alloc (.cells #[nilV, .int .i64 0, .int .i64 0, nilV, .int .i64 0] 57)) = w1 at *
  refine (rfail1 _ _ _ _ _ _ _ _ c 73 hc _).mono ?_
  rintro e w2 ⟨rfl, hb⟩
  have HX2 := Lib.hid ((hb.block _ (blk_lt HX1.out)).trans HX1.out)
  have HY2 := Lib.hid ((hb.block _ (blk_lt HY1.out)).trans HY1.out)
  have HB2 := Lib.hid (HB1.out.trans (hb.mono HB1.out.size))
  clear hb HB1 HX1 HY1
  go_wp2_with (refine wpList_store_row rfl 57 (.tmp 4) (.tmp 8) rfl (w.heap.size + 1) #[.slice ba bl bc, .int .i64 i, .int .i64 n, .slice na nl nc, .int .i64 c] rfl rfl 57 #[nilV, .int .i64 0, .int .i64 0, nilV, .int .i64 0] HY2.out infoS rfl (by simp [Array.all, Value.oneCell']) ?_)
  have HY3 := Lib.hid (setRow_heap w2 (w.heap.size + 1) #[nilV, .int .i64 0, .int .i64 0, nilV, .int .i64 0] #[.slice ba bl bc, .int .i64 i, .int .i64 n, .slice na nl nc, .int .i64 c] 57 (0, 0) HY2.out)
  have HX3 := Lib.hid ((setRow_other w2 (w.heap.size + 1) (w.heap.size) #[.slice ba bl bc, .int .i64 i, .int .i64 n, .slice na nl nc, .int .i64 c] (by omega)).trans HX2.out)
  have HB3 := Lib.hid (HB2.out.trans ((setRow_turn w2 (w.heap.size + 1) #[.slice ba bl bc, .int .i64 i, .int .i64 n, .slice na nl nc, .int .i64 c]).below HB2.out.size (fun i e => by omega)))
  clear HB2 HY2 HX2
  generalize w2.setRow (w.heap.size + 1) #[.slice ba bl bc, .int .i64 i, .int .i64 n, .slice na nl nc, .int .i64 c] = w3 at *
  go_wp2_with fail
  obtain ⟨k0, k1, k2, k3, k4⟩ := FiveAt.of_block HY3.out
  exact bodyPost_ret (v := stV ba bl bc i n na nl nc c) (by simp [results, Try.results32, go_sem, k0, k1, k2, k3, k4]) rfl ⟨rfl, HB3.out⟩
theorem rmust_e (ba : Option Addr) (bl bc : Nat) (i n : Int) (na : Option Addr) (nl nc : Nat) (c : Int) (hc : ¬ c = 0) (b : Bool) (w : World) : Calls Try.prog 32 #[stV ba bl bc i n na nl nc c, .bool b] w (RB w (stV ba bl bc i n na nl nc c)) := by
  cases b with
  | true => exact rmust_yes ba bl bc i n na nl nc c w
  | false => exact rmust_no1 ba bl bc i n na nl nc c hc w
/-- must, in whatever state -/
theorem rmust_any (ba : Option Addr) (bl bc : Nat) (i n : Int) (na : Option Addr) (nl nc : Nat) (c : Int) (b : Bool) (w : World) : Calls Try.prog 32 #[stV ba bl bc i n na nl nc c, .bool b] w (RB w (stV ba bl bc i n na nl nc (if b = true then c else if c = 0 then 73 else c))) := by
  cases b with
  | true => exact rmust_yes ba bl bc i n na nl nc c w
  | false =>
    by_cases hc : c = 0
    · subst hc; exact rmust_no0 ba bl bc i n na nl nc w
    · have := rmust_no1 ba bl bc i n na nl nc c hc w
      simpa [hc] using this
end Go.Proofs.Ytkfblapfphnggaa
