/- Does a term fit: plain facts; pairs in memory. -/
import Derived.Test.YtlgpdpadaknnaaaB7
namespace Go.Proofs.Ytlgpdpadaknnaaa
open Go.RowKit Go.Maps
set_option maxRecDepth 100000
attribute [local go_sem] run_store_complex run_store_func' run_store_nilFunc'

open Classical in
/-- ints fit variables: what stands for which -/
noncomputable def fitM : List (ByteArray × Int) → List (ByteArray × Int) → Option (List (ByteArray × Int))
  | [], B => some B
  | q :: r, B => if q.1 ∈ B.map (·.1) then (if q ∈ B then fitM r B else none) else fitM r (B ++ [q])
theorem fitM_new {q : ByteArray × Int} {r B : List (ByteArray × Int)} (h : q.1 ∉ B.map (·.1)) : fitM (q :: r) B = fitM r (B ++ [q]) := by
  rw [fitM, if_neg h]
theorem fitM_old {q : ByteArray × Int} {r B : List (ByteArray × Int)} (h : q ∈ B) : fitM (q :: r) B = fitM r B := by
  rw [fitM, if_pos (List.mem_map_of_mem h), if_pos h]
theorem fitM_bad {q : ByteArray × Int} {r B : List (ByteArray × Int)} (h : q.1 ∈ B.map (·.1)) (h2 : q ∉ B) : fitM (q :: r) B = none := by
  rw [fitM, if_pos h, if_neg h2]
theorem fitM_apart : ∀ (qs B : List (ByteArray × Int)), ((B ++ qs).map (·.1)).Nodup → fitM qs B = some (B ++ qs)
  | [], B, _ => by simp [fitM]
  | q :: r, B, h => by
    have hn : q.1 ∉ B.map (·.1) := by
      rw [List.map_append, List.nodup_append] at h
      intro hm
      exact h.2.2 _ hm _ (by simp) rfl
    rw [fitM_new hn, fitM_apart r (B ++ [q]) (by simpa using h)]
    simp
/-- an int that stands for a name -/
abbrev intB (q : ByteArray × Int) : ByteArray × Value := (q.1, lfV 1 q.2 ⟨#[]⟩)
theorem intB_fst (B : List (ByteArray × Int)) : (B.map intB).map (·.1) = B.map (·.1) := by rw [List.map_map]; rfl
/-- a pair of a variable and an int; of two lists -/
abbrev pvC (q : ByteArray × Int) : Array Value := #[.int .i64 9, .int .i64 0, .complex .f64 0 0, .string q.1, .int .i64 0, .int .u32 0, .int .u64 0, nilV, nilV, .int .i64 1, .int .i64 q.2, .complex .f64 0 0, .string ⟨#[]⟩, .int .i64 0, .int .u32 0, .int .u64 0, nilV, nilV]
abbrev plC (k : Int) (pv tv : Value) : Array Value := #[.int .i64 k, .int .i64 0, .complex .f64 0 0, .string ⟨#[]⟩, .int .i64 0, .int .u32 0, .int .u64 0, nilV, pv, .int .i64 k, .int .i64 0, .complex .f64 0 0, .string ⟨#[]⟩, .int .i64 0, .int .u32 0, .int .u64 0, nilV, tv]
def pcat (l : List (ByteArray × Int)) : List Value := l.flatMap fun q => (pvC q).toList
theorem pcat_app (a b : List (ByteArray × Int)) : pcat (a ++ b) = pcat a ++ pcat b := by simp [pcat]
theorem pcat_len : ∀ l : List (ByteArray × Int), (pcat l).length = l.length * 18
  | [] => rfl
  | q :: l => by
    have := pcat_len l
    have e : pcat (q :: l) = (pvC q).toList ++ pcat l := rfl
    rw [e, List.length_append, this]
    simp
    omega
/-- parts without parts, one behind the other -/
structure Lv where
  k : Int
  n : Int
  s : ByteArray
abbrev lvC (a : Lv) : Array Value := lfC a.k a.n a.s
abbrev lvT (a : Lv) : Tm := leafT a.k a.n a.s
theorem lv_reps (w : World) (F : Nat → Prop) : ∀ l : List Lv, Reps w F (l.map lvT) (l.map lvC)
  | [] => rfl
  | a :: l => ⟨lvC a, l.map lvC, rfl, ⟨nilV, nilV, rfl, Row.nil _ _ _ _, [], Row.nil _ _ _ _, rfl⟩, lv_reps w F l⟩
/-- a list of parts without parts -/
def LRow (w : World) (F : Nat → Prop) (v : Value) (l : List Lv) : Prop := Row w F 31 9 v l.length (cat (l.map lvC))
theorem LRow.rep {w : World} {F : Nat → Prop} {v : Value} {l : List Lv} (h : LRow w F v l) (k : Int) : Rep w F (.mk { kind := k } (l.map lvT)) (hdC { kind := k } nilV v) :=
  ⟨nilV, v, rfl, Row.nil _ _ _ _, l.map lvC, by rw [List.length_map]; exact h, lv_reps w F l⟩
theorem LRow.nine {w : World} {F : Nat → Prop} {v : Value} {l : List Lv} (h : LRow w F v l) {i : Nat} (hi : i < l.length) :
    ∃ g cap, v = .slice (some ⟨g, 0, none⟩) l.length cap ∧ F g ∧ NineIn w g (i * 9) l[i].k l[i].n 0 0 l[i].s 0 0 0 nilV nilV := by
  have hr := lv_reps w F l
  have h' : Row w F 31 9 v (l.map lvT).length (cat (l.map lvC)) := by rw [List.length_map]; exact h
  obtain ⟨g, cap, hv, hg, hd, bv, pv, hrep, ⟨l2, hl2⟩, h9⟩ := h'.nine hr (i := i) (by simpa using hi)
  rw [List.length_map] at hv
  refine ⟨g, cap, hv, hg, ?_⟩
  have e1 : (l.map lvT)[i]'(by simpa using hi) = lvT l[i] := by simp
  rw [e1] at hl2 hrep
  have hc := hrep.leaf
  have hl3 : Tm.mk { kind := l[i].k, n := l[i].n, s := l[i].s } [] = Tm.mk hd l2 := hl2
  cases hl3
  obtain ⟨rfl, rfl⟩ : bv = nilV ∧ pv = nilV := by
    simp [hdC] at hc
    exact hc
  exact h9
theorem LRow.keep {w w' : World} {F : Nat → Prop} {v : Value} {l : List Lv} (h : LRow w F v l) (hs : ∀ b, F b → b < w.heap.size → w'.heap[b]? = w.heap[b]?) : LRow w' F v l := Row.keep h hs
/-- so many cells, from there on -/
theorem run_loadVar_at {P : Program} (w : World) (g off : Nat) (ty : TypeId) (cs : Array Value) (d : TypeDesc) (hc : ∀ j v, cs[j]? = some v → w.cell? ⟨g, off + j, none⟩ = some v)
    (hu : P.underlying ty = some d) (hd : (match d with | .struct _ | .array _ _ => true | _ => false) = true) (hi : (P.info? ty).map (·.size) = some cs.size) :
    (loadVar ty ⟨g, off, none⟩).run P w = .ok (.agg cs) w := by
  have hl : (loadCells ⟨g, off, none⟩ cs.toList.length).run P w = .ok cs.toList.toArray w :=
    run_loadCells_list (P := P) w ⟨g, off, none⟩ cs.toList (fun j v hv => by
      rw [Addr.add_lit]
      exact hc j v (by simpa using hv))
  cases hq : P.info? ty with
  | none => simp [hq] at hi
  | some i =>
    have hs : i.size = cs.size := by simpa [hq] using hi
    have hagg : (isAgg ty).run P w = .ok true w := by
      unfold isAgg
      rw [Sem.run_bind, run_underlying hu w]
      cases d <;> simp_all
    simp only [Array.length_toList, Array.toArray_toList] at hl
    simp [loadVar, Sem.run_bind, hagg, sizeOf, typeInfo, hq, hs, hl]
theorem wpList_load_at {P : Program} {ops : Array Oper} {rest : List Oper} {o : Oper} {a : Act} {w : World} {Q : Exit → Act → World → Prop} (hgd : o.guard = none) (ty : TypeId) (x : Operand) (ho : o.op = .load ty x)
    (g off : Nat) (hx : a.eval x = .pointer (some ⟨g, off, none⟩)) (cs : Array Value) (d : TypeDesc) (hc : ∀ j v, cs[j]? = some v → w.cell? ⟨g, off + j, none⟩ = some v)
    (hu : P.underlying ty = some d) (hd : (match d with | .struct _ | .array _ _ => true | _ => false) = true) (hi : (P.info? ty).map (·.size) = some cs.size)
    (h : wpList P ops Q rest (a.put o.dst (.agg cs)) w) : wpList P ops Q (o :: rest) a w :=
  wpList_plain hgd fun _ hK => by
    unfold Oper.wp execOp
    simp only [ho, hx, Instr.loadAt, Instr.sureAddr, Sem.run_bind, Sem.run_pure, Result.andThen_ok, run_loadVar_at w g off ty cs d hc hu hd hi]
    exact hK _ _ h
/-- the first of them -/
theorem row_take {w : World} {base e size n m cap : Nat} {a : Option Addr} {xs : List Value} (h : w.ownsRow base e size (.slice a n cap) n xs) (hm : m ≤ n) (hn : 0 < n) : w.ownsRow base e size (.slice a m cap) m (xs.take (m * size)) := by
  refine ⟨by rw [List.length_take, h.1]; exact Nat.min_eq_left (Nat.mul_le_mul_right _ hm), ?_⟩
  rcases h.2 with ⟨_, h0⟩ | ⟨g, cp, cur, hv, hb, hg, hc, hc2, hs, ht⟩
  · omega
  · cases hv
    refine .inr ⟨g, _, cur, rfl, hb, hg, by omega, hc2, hs, ?_⟩
    rw [← ht, List.take_take, Nat.min_eq_left (Nat.mul_le_mul_right _ hm)]
theorem slice_to18 (w : World) (g n c k : Nat) (h : k ≤ c) : (Instr.slice 71 (.slice (some ⟨g, 0, none⟩) n c) none (some (.int .i64 k)) none).run Try.prog w = .ok (.slice (some ⟨g, 0, none⟩) k c) w := by
  have hk : ((k : Int)).toNat = k := by omega
  rw [run_slice_h (w := w) 71 (some ⟨g, 0, none⟩) n c (by kernel_rfl) .i64 k (by omega) (by omega), show Try.prog.elem 71 = 70 from by kernel_rfl, Try.sizeOf70]
  simp [Result.andThen, sliced, hk, Addr.add]
theorem src_new {P : Program} {tx e' size : Nat} (hk : P.underlying tx = some (.slice e')) (cs : Array Value) (hs : cs.size = size) (t : TypeId) (h1 : ∀ u ∈ cs.toList, u.oneCell' = true) (w : World) : Src P size tx (.slice (some ⟨w.heap.size, 0, none⟩) 1 1) 1 cs.toList (w.alloc (.cells cs t)) := by
  refine Src.ofSlice _ hk _ _ _ _ (by simp [hs]) (fun j u h => ?_) h1
  simp only [Addr.add_lit, World.cell?, heap_new, Nat.zero_add]
  simpa using h
theorem infoPair : (Try.prog.info? 70).map (fun i => (i.zero, i.size, i.bytes)) = some (some (.agg #[.int .i64 0, .int .i64 0, .complex .f64 0 0, .string ⟨#[]⟩, .int .i64 0, .int .u32 0, .int .u64 0, nilV, nilV, .int .i64 0, .int .i64 0, .complex .f64 0 0, .string ⟨#[]⟩, .int .i64 0, .int .u32 0, .int .u64 0, nilV, nilV]), 18, 240) := by kernel_rfl
theorem pv_one (q : ByteArray × Int) : ∀ u ∈ (pvC q).toList, u.oneCell' = true := by simp [Value.oneCell']
/-- the row's block is not another's -/
theorem row_grown {w w' : World} {base e size n : Nat} {v : Value} {xs : List Value} {m : Nat} (h : w.ownsRow base e size v n xs) (hm : m < base) {W : World} (hT : Turn (fun i => i = m) W w) (hW : W.heap.size ≤ base) {o : Obj} (hg : (w.alloc o).grownBy w' v.ownBlock) :
    Turn (fun i => i = m) W w' :=
  (hT.trans (Turn.alloc _ w o)).andThen (Turn.of_grownBy hg) fun i e => .inr (by have := (h.lt i e).1; omega)
end Go.Proofs.Ytlgpdpadaknnaaa
