/- ties.Links, ties.all, Mine, Theirs, walked: what there is, in rows. -/
import Derived.Test.YtkpeelhanmekdaaC1
import Derived.Test.YtkpeelhanmekdaaC2
import Derived.Test.YtkpeelhanmekdaaC3
import Derived.Test.YtkpeelhanmekdaaC4
namespace Go.Proofs.Ytkpeelhanmekdaa
set_option linter.unusedVariables false
set_option linter.unusedSimpArgs false
set_option linter.constructorNameAsVariable false
open Go.Shelf Go.RowKit Go.Lib Go.Proofs
set_option maxRecDepth 100000

theorem blk_lt {w : World} {g : Nat} {o : Obj} (h : w.heap[g]? = some o) : g < w.heap.size := (Array.getElem?_eq_some_iff.1 h).1
/-- so many cells, from there on -/
theorem run_loadVar_at {P : Program} (w : World) (g off : Nat) (ty : TypeId) (cs : Array Value) (d : TypeDesc) (hc : ∀ j v, cs[j]? = some v → w.cell? ⟨g, off + j, none⟩ = some v)
    (hu : P.underlying ty = some d) (hd : (match d with | .struct _ | .array _ _ => true | _ => false) = true) (hi : (P.info? ty).map (·.size) = some cs.size) :
    (loadVar ty ⟨g, off, none⟩).run P w = .ok (.agg cs) w := by
  have hl : (loadCells ⟨g, off, none⟩ cs.toList.length).run P w = .ok cs.toList.toArray w :=
    run_loadCells_list (P := P) w ⟨g, off, none⟩ cs.toList (fun j v hv => by
      rw [Addr.add_lit]
      exact hc j v (by simpa using hv))
  cases hq : P.info? ty with
  | none => simp [hq] at hi
  | some i =>
    have hs : i.size = cs.size := by simpa [hq] using hi
    have hagg : (isAgg ty).run P w = .ok true w := by
      unfold isAgg
      rw [Sem.run_bind, run_underlying hu w]
      cases d <;> simp_all
    simp only [Array.length_toList, Array.toArray_toList] at hl
    simp [loadVar, Sem.run_bind, hagg, sizeOf, typeInfo, hq, hs, hl]
theorem wpList_load_at {P : Program} {ops : Array Oper} {rest : List Oper} {o : Oper} {a : Act} {w : World} {Q : Exit → Act → World → Prop} (hgd : o.guard = none) (ty : TypeId) (x : Operand) (ho : o.op = .load ty x)
    (g off : Nat) (hx : a.eval x = .pointer (some ⟨g, off, none⟩)) (cs : Array Value) (d : TypeDesc) (hc : ∀ j v, cs[j]? = some v → w.cell? ⟨g, off + j, none⟩ = some v)
    (hu : P.underlying ty = some d) (hd : (match d with | .struct _ | .array _ _ => true | _ => false) = true) (hi : (P.info? ty).map (·.size) = some cs.size)
    (h : wpList P ops Q rest (a.put o.dst (.agg cs)) w) : wpList P ops Q (o :: rest) a w :=
  wpList_plain hgd fun _ hK => by
    unfold Oper.wp execOp
    simp only [ho, hx, Instr.loadAt, Instr.sureAddr, Sem.run_bind, Sem.run_pure, Result.andThen_ok, run_loadVar_at w g off ty cs d hc hu hd hi]
    exact hK _ _ h
open Classical in
/-- ids and what stands for them -/
theorem perm_lift {α β : Type} (f : α → β) : ∀ (ids : List β) (M : List α), ids.Perm (M.map f) → ∃ P : List α, P.map f = ids ∧ P.Perm M
  | [], M, h => by
    have h1 : M.map f = [] := h.nil_eq.symm
    have h2 : M = [] := by simpa using h1
    subst h2
    exact ⟨[], rfl, .refl _⟩
  | x :: r, M, h => by
    have hx : x ∈ M.map f := h.mem_iff.1 (by simp)
    obtain ⟨q, hq, rfl⟩ := List.mem_map.1 hx
    have hp := List.perm_cons_erase hq
    have h2 := h.trans (hp.map f)
    rw [List.map_cons] at h2
    obtain ⟨P, h3, h4⟩ := perm_lift f r (M.erase q) (List.perm_cons _ |>.1 h2)
    exact ⟨q :: P, by simp [h3], (h4.cons q).trans hp.symm⟩
theorem pv_fst (M : List (Idd × Idd)) : (M.map pv).map (·.1) = M.map (·.1) := by simp
theorem lv_fst (L : List Idd) : (L.map lv).map (·.1) = L := by
  rw [List.map_map]
  exact List.map_id L
/-- the cells of monitors -/
def tiecat (l : List (Idd × Idd)) : List Value := l.flatMap fun q => (twoC q.1 q.2).toList
theorem tiecat_app (l m : List (Idd × Idd)) : tiecat (l ++ m) = tiecat l ++ tiecat m := by simp [tiecat]
theorem tiecat_len : ∀ l : List (Idd × Idd), (tiecat l).length = l.length * 6
  | [] => rfl
  | q :: l => by
    have := tiecat_len l
    have e : tiecat (q :: l) = (twoC q.1 q.2).toList ++ tiecat l := rfl
    rw [e, List.length_append, this]
    simp
    omega
theorem tiecat_get : ∀ (l : List (Idd × Idd)) (i j : Nat) (hi : i < l.length) (_ : j < 6), (tiecat l)[i * 6 + j]? = (twoC l[i].1 l[i].2)[j]?
  | [], _, _, hi, _ => by simp at hi
  | q :: l, 0, j, _, hj => by
    have e : tiecat (q :: l) = (twoC q.1 q.2).toList ++ tiecat l := rfl
    rw [e, Nat.zero_mul, Nat.zero_add, List.getElem?_append_left (by simp; omega)]
    simp
  | q :: l, i + 1, j, hi, hj => by
    have e : tiecat (q :: l) = (twoC q.1 q.2).toList ++ tiecat l := rfl
    have := tiecat_get l i j (by simpa using hi) hj
    rw [e, List.getElem?_append_right (by simp; omega), show (i + 1) * 6 + j - (twoC q.1 q.2).toList.length = i * 6 + j by simp; omega, this]
    rfl
/-- an id of a row -/
theorem row_id {w : World} {base e n c : Nat} {a : Option Addr} {ids : List Idd} (h : w.ownsRow base e 3 (.slice a n c) n (idcat ids)) {i : Nat} (hi : i < ids.length) : ∃ g, a = some ⟨g, 0, none⟩ ∧ base ≤ g ∧ g < w.heap.size ∧ n ≤ c ∧ c ≤ maxLen ∧ ∀ j v, (idC ids[i])[j]? = some v → w.cell? ⟨g, i * 3 + j, none⟩ = some v := by
  have hl := h.1
  rw [idcat_len] at hl
  rcases h.2 with ⟨e0, e1⟩ | ⟨g, cap, cur, e0, hb, hg, hn, hm, hs, ht⟩
  · omega
  · cases e0
    refine ⟨g, rfl, hb, blk_lt hg, hn, hm, fun j v hv => ?_⟩
    have hj : j < 3 := by
      have := (Array.getElem?_eq_some_iff.1 hv).1
      simpa using this
    have := h.cells (g := g) rfl (i * 3 + j) v (by rw [idcat_get ids i j hi hj]; exact hv)
    simpa [Addr.add_lit] using this
theorem row_tie {w : World} {base e n c : Nat} {a : Option Addr} {l : List (Idd × Idd)} (h : w.ownsRow base e 6 (.slice a n c) n (tiecat l)) {i : Nat} (hi : i < l.length) : ∃ g, a = some ⟨g, 0, none⟩ ∧ base ≤ g ∧ g < w.heap.size ∧ n ≤ c ∧ c ≤ maxLen ∧ ∀ j v, (twoC l[i].1 l[i].2)[j]? = some v → w.cell? ⟨g, i * 6 + j, none⟩ = some v := by
  have hl := h.1
  rw [tiecat_len] at hl
  rcases h.2 with ⟨e0, e1⟩ | ⟨g, cap, cur, e0, hb, hg, hn, hm, hs, ht⟩
  · omega
  · cases e0
    refine ⟨g, rfl, hb, blk_lt hg, hn, hm, fun j v hv => ?_⟩
    have hj : j < 6 := by
      have := (Array.getElem?_eq_some_iff.1 hv).1
      simpa using this
    have := h.cells (g := g) rfl (i * 6 + j) v (by rw [tiecat_get l i j hi hj]; exact hv)
    simpa [Addr.add_lit] using this
theorem infoTie : (Try.prog.info? 62).map (fun i => (i.zero, i.size, i.bytes)) = some (some (.agg #[.int .i64 0, .int .u32 0, .int .u64 0, .int .i64 0, .int .u32 0, .int .u64 0]), 6, 48) := by kernel_rfl
theorem sizeId : (Try.prog.info? 31).map (·.size) = some 3 := by kernel_rfl
theorem sizeTie : (Try.prog.info? 62).map (·.size) = some 6 := by kernel_rfl
theorem two_one (q : Idd × Idd) : ∀ u ∈ (twoC q.1 q.2).toList, u.oneCell' = true := by simp [Value.oneCell']

/-- Links -/
theorem links_any (hS : SortTold) (hN : NoneTold) (p ml mm mt : Nat) (me : Idd) (L : List Idd) (M T : List (Idd × Idd)) (w : World) (h : TiesAt w p ml mm mt me L M T) (hl : L.length ≤ 256) :
    Calls Try.prog 18 #[.pointer (some ⟨p, 0, none⟩)] w (Sorted (L.map lv) w) := by
  obtain ⟨c0, c1, c2, c3, c4, c5⟩ := h.six
  have HC := Lib.hid (sortedB_of hS hN ml (L.map lv) w h.links (fun q hq => by
    obtain ⟨x, hx, rfl⟩ := List.mem_map.1 hq
    exact h.okL x hx) (by rw [List.length_map]; exact hl))
  clear h hS hN
  go_enter Try.func18, Try.ntmps18
  go_wp2_with fail
  refine HC.out.mono ?_
  rintro e w1 ⟨a, c, ids, rfl, hp, ho, hb⟩
  go_wp2_with fail
  go_ret
  exact ⟨a, c, ids, rfl, hp, ho, hb⟩
/-- what ties.all answers: monitors, in a row of its own -/
def AllOf (l : List (Idd × Idd)) (w : World) (e : Ending) (w' : World) : Prop :=
  ∃ (a : Option Addr) (c : Nat) (P : List (Idd × Idd)), e = .returned (.slice a P.length c) ∧ P.Perm l ∧ w'.ownsRow w.heap.size 62 6 (.slice a P.length c) P.length (tiecat P) ∧ Below w.heap.size w w'
/-- the state of its loop: i of the monitors are told -/
def AllSt (P : List (Idd × Idd)) (w1 : World) (t3 t9 : Value) (wr : World) : Prop :=
  ∃ (i : Nat) (a : Option Addr) (c : Nat), t9 = .int .i64 i ∧ i ≤ P.length ∧ t3 = .slice a i c ∧ wr.ownsRow w1.heap.size 62 6 (.slice a i c) i (tiecat (P.take i)) ∧ Below w1.heap.size w1 wr
theorem take_succ {α : Type} {l : List α} {i : Nat} (h : i < l.length) : l.take (i + 1) = l.take i ++ [l[i]] := by
  rw [List.take_add_one, List.getElem?_eq_getElem h]
  rfl
theorem tiecat_one (q : Idd × Idd) : tiecat [q] = (twoC q.1 q.2).toList := by simp [tiecat]
set_option maxHeartbeats 4000000 in
theorem all_any (hS : SortTold) (hN : NoneTold) (m : Nat) (M : List (Idd × Idd)) (w : World) (hm : mapAt w m (M.map pv)) (hok : ∀ q ∈ M, IdOk q.1 ∧ IdOk q.2) (hl : M.length ≤ 256) :
    Calls Try.prog 26 #[.map (some m)] w (AllOf M w) := by
  obtain ⟨i0, hi, hz0, hz1, hz2⟩ := info_parts infoTie
  have X1 := Lib.hid hi
  have X2 := Lib.hid hz0
  have X3 := Lib.hid hz1
  have X4 := Lib.hid hz2
  have HM := Lib.hid hm
  have HK := Lib.hid hok
  have HC := Lib.hid (sortedI_of hS hN m (M.map pv) w hm (fun q hq => by
    obtain ⟨x, hx, rfl⟩ := List.mem_map.1 hq
    exact (hok x hx).1) (by rw [List.length_map]; exact hl))
  clear hi hz0 hz1 hz2 hok hS hN hm
  go_enter Try.func26, Try.ntmps26
  go_wp2_with fail
  refine HC.out.mono ?_
  rintro e w1 ⟨a1, c1, ids, rfl, hp, ho, hb⟩
  rw [pv_fst] at hp
  obtain ⟨P, rfl, hPM⟩ := perm_lift (·.1) ids M hp
  have hPl : P.length ≤ 256 := by rw [hPM.length_eq]; exact hl
  have HP := Lib.hid hPM
  have HO1 := Lib.hid ho
  have HB1 := Lib.hid hb
  have HM1 := Lib.hid (HM.out.block (hb.block m HM.out.lt))
  rw [List.length_map] at HO1 ⊢
  clear hp hPM ho hb HC HM
  go_wp2_with fail
  go_loopw [3, 9] (fun t3 t9 wr => AllSt P w1 t3 t9 wr) (fun _ t9 _ => P.length - (intOf t9).toNat)
  case atStart => exact ⟨0, none, 0, rfl, Nat.zero_le _, rfl, World.ownsRow_nil _ _ _ _, Below.refl _ _⟩
  case round =>
    obtain ⟨i, a3, c3, rfl, hi, rfl, hO, hB⟩ := hrel
    have HO := Lib.hid hO
    have HB := Lib.hid hB
    clear hO hB
    by_cases hlt : i < P.length
    · obtain ⟨g, rfl, hgb, hgl, hgc, hgm, hcell⟩ := row_id HO1.out (i := i) (by rw [List.length_map]; exact hlt)
      have HQ := Lib.hid (show P[i] ∈ M from HP.out.mem_iff.1 (List.getElem_mem hlt))
      have HT := Lib.hid (tiecat_app (P.take i) [P[i]])
      rw [← take_succ hlt, tiecat_one] at HT
      rw [List.getElem_map] at hcell
      generalize P[i] = q at *
      obtain ⟨x, y⟩ := q
      have HL := Lib.hid (show ∀ j v, (idC x)[j]? = some v → wr.cell? ⟨g, i * 3 + j, none⟩ = some v from fun j v h => (HB.out.cell (p := ⟨g, i * 3 + j, none⟩) hgl).trans (hcell j v h))
      clear hcell
      go_upto_region 5 with (refine wpList_load_at rfl 31 (.tmp 11) rfl g (i * 3) rfl (idC x) _ HL.out Try.underlying31 rfl sizeId ?_)
      have HX := Lib.hid (show G.IdAt (wr.alloc (.cells (idC x) 31)) wr.heap.size x from G.id_of (heap_new wr _))
      have HB2 := Lib.hid (HB.out.alloc HB.out.size (.cells (idC x) 31))
      have HO2 := Lib.hid (HO.out.alloc (.cells (idC x) 31))
      have hs2 : wr.heap.size < (wr.alloc (.cells (idC x) 31)).heap.size := by simp
      have HOl := Lib.hid (fun b => HO.out.lt b)
      clear HL HO HB
      generalize wr.alloc (.cells (idC x) 31) = w2 at *
      generalize wr.heap.size = b at *
      have HIx := Lib.hid (HK.out _ HQ.out).1
      have HM2 := Lib.hid (HM1.out.block (w' := w2) (HB2.out.block m HM1.out.lt))
      have HSt : Hid (∀ w', w'.heap[b]? = w2.heap[b]? → w'.heap[m]? = w2.heap[m]? → w'.cell? ⟨b, 0, none⟩ = some (.int .i64 x.node) ∧ w'.cell? ⟨b, 1, none⟩ = some (.int .u32 x.boot) ∧ w'.cell? ⟨b, 2, none⟩ = some (.int .u64 x.n) ∧ (Instr.lookup 50 (.map (some m)) (idV x) false).run Try.prog w' = .ok (idV y) w') := Lib.hid (fun w' h1 h2 => by
        obtain ⟨x0, x1, x2⟩ := HX.out.block h1
        exact ⟨x0, x1, x2, (HM2.out.block h2).look Try.underlying50 (zeroId _) HIx.out.in' (.inl ⟨rfl, List.mem_map_of_mem (f := pv) HQ.out⟩)⟩)
      have HNb := Lib.hid (fun e : (Value.slice a3 i c3).ownBlock = some b => (Nat.lt_irrefl b (HOl.out b e).2))
      have HNm := Lib.hid (fun e : (Value.slice a3 i c3).ownBlock = some m => (Nat.lt_irrefl m (Nat.lt_of_lt_of_le HM1.out.lt (HOl.out m e).1)))
      have hm2 : m < w2.heap.size := HM2.out.lt
      have HOd := Lib.hid (fun o => (HO2.out.alloc o).drew)
      have hS := HSt.out w2.drew rfl rfl
      have hSa := fun o => HSt.out (w2.alloc o).drew (Below.heap_alloc w2 o b hs2) (Below.heap_alloc w2 o m hm2)
      obtain ⟨x0, x1, x2, hlk⟩ := HSt.out w2 rfl rfl
      have HN1 := Lib.hid (show i + 1 ≤ maxLen by unfold maxLen; omega)
      have HN2 := Lib.hid (show (i + 1) * 48 ≤ 140737488355328 by omega)
      have HN3 := Lib.hid (show ∀ o, w1.heap.size ≤ ((w2.alloc o).drew).heap.size from fun o => by have := HB2.out.size; simp; omega)
      have HSr : Hid (Src Try.prog 6 59 (.slice (some ⟨w2.heap.size, 0, none⟩) 1 1) 1 (twoC x y).toList (w2.alloc (.cells (twoC x y) 62)).drew) := Lib.hid (src_new Try.underlying59 (twoC x y) rfl 62 (two_one (x, y)) w2.drew)
      go_region_held3 (fun w' => w'.cell? ⟨b, 0, none⟩ = some (.int .i64 x.node) ∧ w'.cell? ⟨b, 1, none⟩ = some (.int .u32 x.boot) ∧ w'.cell? ⟨b, 2, none⟩ = some (.int .u64 x.n) ∧ (Instr.lookup 50 (.map (some m)) (idV x) false).run Try.prog w' = .ok (idV y) w') (first
          | (with_reducible exact hS)
          | (with_reducible exact hSa _)
          | (with_reducible exact hS9)
          | go_keep)
        (first
          | (refine step_app (by rfl) (.tmp 13) (.tmp 19) 59 59 (by rfl) w1.heap.size 62 i0 (.agg #[.int .i64 0, .int .u32 0, .int .u64 0, .int .i64 0, .int .u32 0, .int .u64 0]) 6 48 Try.underlying59 X1.out X2.out X3.out X4.out rfl (by decide) (.slice a3 i c3) i (tiecat (P.take i)) (by rfl) (HOd.out _) _ 1 (twoC x y).toList (by rfl) HSr.out HN1.out HN2.out (HN3.out _) ?_; intro a4 c4 wz ho4 hg4 hl4; have HOz := Lib.hid ho4; have HBz := Lib.hid (grown_below HB2.out.drew HB2.out.drew.size HO2.out.drew (Nat.le_refl _) hg4); have hS9 := HSt.out wz ((hg4.block b (Nat.lt_of_lt_of_le hs2 (by simp)) (fun e => HNb.out e.symm)).trans (Below.heap_alloc w2 _ b hs2)) ((hg4.block m (Nat.lt_of_lt_of_le hm2 (by simp)) (fun e => HNm.out e.symm)).trans (Below.heap_alloc w2 _ m hm2)); clear ho4 hg4 hl4))
      rename_i hHeld
      rw [show tiecat (P.take i) ++ (twoC x y).toList = tiecat (P.take (i + 1)) from HT.out.symm] at HOz
      clear hHeld hS9 hS hSa x0 x1 x2 hlk HSr HOd HNb HNm HSt HX HO2 HOl HT HIx HM2 HQ
      go_wp2_with fail
      go_roundw
      case rel => exact ⟨i + 1, a4, c4, by go_num, hlt, rfl, HOz.out, HBz.out⟩
      case measure => simp [intOf]; omega
    · obtain rfl : i = P.length := by omega
      have hO := HO.out
      rw [List.take_length] at hO
      have HO2 := Lib.hid (row_base hO HB1.out.size)
      have HB2 := Lib.hid (HB1.out.trans (HB.out.mono HB1.out.size))
      clear hO
      go_wp2_with fail
      go_ret
      exact ⟨a3, c3, P, rfl, HP.out, HO2.out, HB2.out⟩
/-- Mine -/
theorem mine_any (hS : SortTold) (hN : NoneTold) (p ml mm mt : Nat) (me : Idd) (L : List Idd) (M T : List (Idd × Idd)) (w : World) (h : TiesAt w p ml mm mt me L M T) (hl : M.length ≤ 256) :
    Calls Try.prog 20 #[.pointer (some ⟨p, 0, none⟩)] w (AllOf M w) := by
  obtain ⟨c0, c1, c2, c3, c4, c5⟩ := h.six
  have HC := Lib.hid (all_any hS hN mm M w h.mine h.okM hl)
  clear h hS hN
  go_enter Try.func20, Try.ntmps20
  go_wp2_with fail
  refine HC.out.mono ?_
  rintro e w1 ⟨a, c, P, rfl, hp, ho, hb⟩
  go_wp2_with fail
  go_ret
  exact ⟨a, c, P, rfl, hp, ho, hb⟩
/-- Theirs -/
theorem theirs_any (hS : SortTold) (hN : NoneTold) (p ml mm mt : Nat) (me : Idd) (L : List Idd) (M T : List (Idd × Idd)) (w : World) (h : TiesAt w p ml mm mt me L M T) (hl : T.length ≤ 256) :
    Calls Try.prog 21 #[.pointer (some ⟨p, 0, none⟩)] w (AllOf T w) := by
  obtain ⟨c0, c1, c2, c3, c4, c5⟩ := h.six
  have HC := Lib.hid (all_any hS hN mt T w h.theirs h.okT hl)
  clear h hS hN
  go_enter Try.func21, Try.ntmps21
  go_wp2_with fail
  refine HC.out.mono ?_
  rintro e w1 ⟨a, c, P, rfl, hp, ho, hb⟩
  go_wp2_with fail
  go_ret
  exact ⟨a, c, P, rfl, hp, ho, hb⟩
end Go.Proofs.Ytkpeelhanmekdaa
