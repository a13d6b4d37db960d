/- ties.End, walked. (Printed by genD.py.) -/
import Derived.Test.YtkpeelhanmekdaaD1
namespace Go.Proofs.Ytkpeelhanmekdaa
set_option linter.unusedVariables false
set_option linter.unusedSimpArgs false
set_option linter.constructorNameAsVariable false
open Go.Shelf Go.RowKit Go.Lib Go.Proofs
set_option maxRecDepth 100000
attribute [local go_sem] run_store_complex

theorem mapAt.clear {w : World} {b : Nat} {l : List (Idd × Value)} {t e : TypeId} (hown : mapAt w b l) (ht : Try.prog.underlying t = some (.map 31 e)) (ty : TypeId) : ∃ w', (Builtin.clear_ #[t] ty #[.map (some b)]).run Try.prog w = .ok (.tuple #[]) w' ∧ mapAt w' b [] ∧ w.mapTurned w' b := by
  obtain ⟨D, ⟨es, clock, hb, F, hs, rfl⟩, hi⟩ := hown
  refine ⟨Go.ChangeMaps.setBlock w b (.map #[] clock), ?_, ⟨_, ⟨#[], clock, Go.ChangeMaps.heap_setBlock_same hb _, fit_nil F, by simp, rfl⟩, mapIs_nil⟩, ⟨es, clock, #[], clock, hb, rfl⟩⟩
  simp [Builtin.clear_, run_underlying ht, MapKept.run_getObj_map hb, MapKept.run_setObj_map _ hb, Result.andThen, Go.ChangeMaps.setBlock]
theorem take_map {α β : Type} (f : α → β) {l : List α} {i : Nat} (h : i < l.length) : (l.take (i + 1)).map f = (l.take i).map f ++ [f l[i]] := by
  rw [take_succ h, List.map_append]
  rfl
/-- so many of l are told -/
def SgLoop {α : Type} (B : Nat) (S : Nat → Prop) (v0 : Value) (W2 : World) (sg0 : List (Array Value)) (n0 : Nat) (f : α → Array Value) (l : List α) (t5 t20 : Value) (wr : World) : Prop :=
  ∃ (i : Nat) (a : Option Addr) (c : Nat), t20 = .int .i64 i ∧ i ≤ l.length ∧ t5 = .slice a (n0 + i) c ∧ OutSt B S v0 W2 (sg0 ++ (l.take i).map f) (n0 + i) (.slice a (n0 + i) c) wr
theorem OutSt.take0 {α : Type} {B : Nat} {S : Nat → Prop} {v0 v : Value} {W2 wr : World} {sg0 : List (Array Value)} {n : Nat} {f : α → Array Value} {l : List α} (h : OutSt B S v0 W2 sg0 n v wr) : OutSt B S v0 W2 (sg0 ++ (l.take 0).map f) (n + 0) v wr := by
  simpa using h
def EndPost (p ml mm mt : Nat) (me : Idd) (L : List Idd) (T : List (Idd × Idd)) (k n : Int) (s : ByteArray) (w : World) (e : Ending) (w' : World) : Prop :=
  ∃ (a : Option Addr) (c : Nat) (Ls : List Idd) (Ts : List (Idd × Idd)), e = .returned (.slice a (Ls.length + Ts.length) c) ∧ Ls.Perm L ∧ Ts.Perm T ∧
    w'.ownsRow w.heap.size 47 20 (.slice a (Ls.length + Ts.length) c) (Ls.length + Ts.length) (cat (Ls.map (fun x : Idd => sgC 4 me x id0 k n s 1) ++ Ts.map (fun x : Idd × Idd => sgC 7 me x.2 x.1 k n s 0))) ∧ TiesAt w' p ml mm mt me [] [] [] ∧ Turn (TS ml mm mt) w w'
set_option maxHeartbeats 8000000 in
theorem end_any (hS : SortTold) (hN : NoneTold) (k n : Int) (s : ByteArray) (hr : Right k n s) (p ml mm mt : Nat) (me : Idd) (L : List Idd) (M T : List (Idd × Idd)) (w : World) (ht : TiesAt w p ml mm mt me L M T) (hl : L.length ≤ 256) (hl2 : T.length ≤ 256) :
    Calls Try.prog 14 #[.pointer (some ⟨p, 0, none⟩), lfV k n s] w (EndPost p ml mm mt me L T k n s w) := by
  obtain ⟨i0, hi, hz0, hz1, hz2⟩ := info_parts infoSg
  have X1 := Lib.hid hi
  have X2 := Lib.hid hz0
  have X3 := Lib.hid hz1
  have X4 := Lib.hid hz2
  have HR := Lib.hid hr
  have HSo := Lib.hid hS
  have HNo := Lib.hid hN
  have H := Lib.hid ht
  clear hi hz0 hz1 hz2 hr hS hN ht
  go_enter Try.func14, Try.ntmps14
  go_wp2_with fail
  refine (HR.out _).mono ?_
  rintro e w0 ⟨rfl, hb0⟩
  have HB0 := Lib.hid (((Below.refl w.heap.size w).alloc (Nat.le_refl _) (.cells (lfC k n s) 44)).trans (hb0.mono (by simp)))
  have HH0 := Lib.hid ((hb0.block w.heap.size (by simp)).trans (heap_new w (.cells (lfC k n s) 44)))
  have hh0 : w.heap.size < w0.heap.size := blk_lt HH0.out
  have hp0 : p < w.heap.size := H.out.lt
  clear hb0
  have H0 := Lib.hid (H.out.below HB0.out)
  generalize hh : w.heap.size = h at *
  go_wp2_with fail
  refine (links_any HSo.out HNo.out p ml mm mt me L M T w0 H0.out hl).mono ?_
  rintro e w1 ⟨a1, c1, ids, rfl, hp, ho, hb⟩
  rw [lv_fst] at hp
  have HPe := Lib.hid hp
  have hil : ids.length ≤ 256 := by rw [hp.length_eq]; exact hl
  have HO1 := Lib.hid ho
  have HB1 := Lib.hid (HB0.out.trans (hb.mono (by omega)))
  have HH1 := Lib.hid ((hb.block h (by omega)).trans HH0.out)
  have HP1 := Lib.hid ((hb.block p (by omega)).trans H0.out.cells)
  have H1 := Lib.hid (H0.out.below hb)
  have hpB : p < w1.heap.size := blk_lt HP1.out
  have hhB : h < w1.heap.size := blk_lt HH1.out
  clear hp ho hb HB0 HH0 H0
  go_wp2_with fail
  obtain ⟨z0, hz0⟩ : ∃ z : Nat, z = 0 := ⟨_, rfl⟩
  have HZ0 := Lib.hid hz0
  clear hz0
  go_loopw [5, 20] (fun t5 t20 wr => SgLoop w1.heap.size (fun _ => False) nilV w1 ([] : List (Array Value)) z0 (fun x : Idd => sgC 4 me x id0 k n s 1) ids t5 t20 wr) (fun _ t20 _ => ids.length - (intOf t20).toNat)
  case atStart => exact ⟨0, none, 0, rfl, Nat.zero_le _, by rw [HZ0.out], by rw [HZ0.out]; exact OutSt.start rfl (World.ownsRow_nil _ _ _ _)⟩
  case round =>
    obtain ⟨i, a5, c5, rfl, hi, rfl, hO⟩ := hrel
    have HO := Lib.hid hO
    clear hO
    by_cases hlt : i < ids.length
    · obtain ⟨g, rfl, hgb, hgl, hgc, hgm, hcell⟩ := row_id HO1.out hlt
      generalize hx : ids[i] = x at *
      have HT := Lib.hid (take_map (fun x : Idd => sgC 4 me x id0 k n s 1) hlt)
      rw [hx] at HT
      clear hx
      have HL := Lib.hid (show ∀ j v, (idC x)[j]? = some v → wr.cell? ⟨g, i * 3 + j, none⟩ = some v from fun j v h => (World.cell?_of_block (HO.out.old hgl (by simp [Value.ownBlock]) (fun h => h))).trans (hcell j v h))
      clear hcell
      go_upto_region 7 with (refine wpList_load_at rfl 31 (.tmp 22) rfl g (i * 3) rfl (idC x) _ HL.out Try.underlying31 rfl sizeId ?_)
      have HX := Lib.hid (heap_new wr (.cells (idC x) 31))
      have HA2 := Lib.hid ((Below.refl wr.heap.size wr).alloc (Nat.le_refl _) (.cells (idC x) 31))
      have HO2 := Lib.hid (HO.out.below HA2.out)
      have hs2 : wr.heap.size < (wr.alloc (.cells (idC x) 31)).heap.size := by simp
      have HOl := Lib.hid (HO.out.apart (b := wr.heap.size) (.inr (Nat.le_refl _)))
      have HZ := Lib.hid (HO.out.turn.size)
      have HPw := Lib.hid ((HA2.out.block p (by have := HZ.out; omega)).trans ((HO.out.old (b := p) (by omega) (by simp [Value.ownBlock]) (fun h => h)).trans HP1.out))
      have HHw := Lib.hid ((HA2.out.block h (by have := HZ.out; omega)).trans ((HO.out.old (b := h) (by omega) (by simp [Value.ownBlock]) (fun h => h)).trans HH1.out))
      have hpb : p < wr.heap.size := by have := HZ.out; omega
      have hhb : h < wr.heap.size := by have := HZ.out; omega
      clear HL HO HA2
      generalize wr.alloc (.cells (idC x) 31) = w2 at *
      generalize wr.heap.size = b at *
      have HSt : Hid (∀ w' : World, w'.heap[b]? = w2.heap[b]? → w'.heap[p]? = w2.heap[p]? → w'.heap[h]? = w2.heap[h]? → w'.cell? ⟨p, 0, none⟩ = some (.int .i64 me.node) ∧ w'.cell? ⟨p, 1, none⟩ = some (.int .u32 me.boot) ∧ w'.cell? ⟨p, 2, none⟩ = some (.int .u64 me.n) ∧ w'.cell? ⟨b, 0, none⟩ = some (.int .i64 x.node) ∧ w'.cell? ⟨b, 1, none⟩ = some (.int .u32 x.boot) ∧ w'.cell? ⟨b, 2, none⟩ = some (.int .u64 x.n) ∧ w'.cell? ⟨h, 0, none⟩ = some (.int .i64 k) ∧ w'.cell? ⟨h, 1, none⟩ = some (.int .i64 n) ∧ w'.cell? ⟨h, 2, none⟩ = some (.complex .f64 0 0) ∧ w'.cell? ⟨h, 3, none⟩ = some (.string s) ∧ w'.cell? ⟨h, 4, none⟩ = some (.int .i64 0) ∧ w'.cell? ⟨h, 5, none⟩ = some (.int .u32 0) ∧ w'.cell? ⟨h, 6, none⟩ = some (.int .u64 0) ∧ w'.cell? ⟨h, 7, none⟩ = some (nilV) ∧ w'.cell? ⟨h, 8, none⟩ = some (nilV)) := Lib.hid (fun w' h1 h2 h3 => by
        have e1 := h1.trans HX.out
        have e2 := h2.trans HPw.out
        have e3 := h3.trans HHw.out
        refine ⟨?_, ?_, ?_, ?_, ?_, ?_, ?_, ?_, ?_, ?_, ?_, ?_, ?_, ?_, ?_⟩ <;> simp [World.cell?, e1, e2, e3])
      have HNp := Lib.hid (HO2.out.apart (b := p) (.inl hpB))
      have HNh := Lib.hid (HO2.out.apart (b := h) (.inl hhB))
      have hS := HSt.out w2.drew rfl rfl rfl
      have HWc := Lib.hid (Below.refl w2.heap.size w2).drew
      have HRo := Lib.hid (fun o => (HO2.out.row.alloc o).drew)
      have HN1 := Lib.hid (show z0 + i + 1 ≤ maxLen by have := HZ0.out; unfold maxLen; omega)
      have HN2 := Lib.hid (show (z0 + i + 1) * 208 ≤ 140737488355328 by have := HZ0.out; omega)
      obtain ⟨x0, x1, x2, x3, x4, x5, x6, x7, x8, x9, x10, x11, x12, x13, x14⟩ := HSt.out w2 rfl rfl rfl
      go_region_held3 (fun w' => w'.cell? ⟨p, 0, none⟩ = some (.int .i64 me.node) ∧ w'.cell? ⟨p, 1, none⟩ = some (.int .u32 me.boot) ∧ w'.cell? ⟨p, 2, none⟩ = some (.int .u64 me.n) ∧ w'.cell? ⟨b, 0, none⟩ = some (.int .i64 x.node) ∧ w'.cell? ⟨b, 1, none⟩ = some (.int .u32 x.boot) ∧ w'.cell? ⟨b, 2, none⟩ = some (.int .u64 x.n) ∧ w'.cell? ⟨h, 0, none⟩ = some (.int .i64 k) ∧ w'.cell? ⟨h, 1, none⟩ = some (.int .i64 n) ∧ w'.cell? ⟨h, 2, none⟩ = some (.complex .f64 0 0) ∧ w'.cell? ⟨h, 3, none⟩ = some (.string s) ∧ w'.cell? ⟨h, 4, none⟩ = some (.int .i64 0) ∧ w'.cell? ⟨h, 5, none⟩ = some (.int .u32 0) ∧ w'.cell? ⟨h, 6, none⟩ = some (.int .u64 0) ∧ w'.cell? ⟨h, 7, none⟩ = some (nilV) ∧ w'.cell? ⟨h, 8, none⟩ = some (nilV)) (first
          | (with_reducible exact hS)
          | (with_reducible exact hSa _)
          | (with_reducible exact hS9)
          | go_keep)
        (first
          | (go_at_call 23; refine (copy_leaf k n s HR.out _).mono ?_; rintro e wc ⟨rfl, hbc⟩; have hH := HWc.out.trans (hbc.mono HWc.out.size); clear HWc; have HWc := Lib.hid hH; clear hH hbc; have hS := HSt.out _ (HWc.out.block b hs2) (HWc.out.block p (by omega)) (HWc.out.block h (by omega)); have hSa := fun o => HSt.out (wc.alloc o) ((Below.heap_alloc wc o b (Nat.lt_of_lt_of_le hs2 HWc.out.size)).trans (HWc.out.block b hs2)) ((Below.heap_alloc wc o p (by have := HWc.out.size; omega)).trans (HWc.out.block p (by omega))) ((Below.heap_alloc wc o h (by have := HWc.out.size; omega)).trans (HWc.out.block h (by omega))); have HO2c := Lib.hid (HO2.out.below HWc.out); clear HRo; have HRo := Lib.hid (fun o => HO2c.out.row.alloc o); have HXb := Lib.hid (fun o => (Below.refl wc.heap.size wc).alloc (Nat.le_refl _) o); have HSr := Lib.hid (fun w => src_new Try.underlying38 (sgC 4 me x id0 k n s 1) rfl 47 (sg_one _ _ _ _ _ _ _ _) w); have HN3 := Lib.hid (show ∀ o, w1.heap.size ≤ (wc.alloc o).heap.size from fun o => by have := HWc.out.size; have := HZ.out; simp; omega))
          | (refine step_app (by rfl) (.tmp 24) (.tmp 33) 38 38 (by rfl) w1.heap.size 47 i0 (.agg sgZ) 20 208 Try.underlying38 X1.out X2.out X3.out X4.out rfl (by decide) (.slice a5 (z0 + i) c5) (z0 + i) _ (by rfl) (HRo.out _) _ 1 (sgC 4 me x id0 k n s 1).toList (by rfl) (HSr.out _) HN1.out HN2.out (HN3.out _) ?_; intro a4 c4 wz ho4 hg4 hl4; have HOz := Lib.hid (HO2c.out.app (HXb.out _) ho4 hg4 hl4); have hS9 := HSt.out wz ((hg4.block b (by have := HWc.out.size; simp; omega) (fun e => HOl.out e.symm)).trans ((Below.heap_alloc wc _ b (by have := HWc.out.size; omega)).trans (HWc.out.block b hs2))) ((hg4.block p (by have := HWc.out.size; simp; omega) (fun e => HNp.out e.symm)).trans ((Below.heap_alloc wc _ p (by have := HWc.out.size; omega)).trans (HWc.out.block p (by omega)))) ((hg4.block h (by have := HWc.out.size; simp; omega) (fun e => HNh.out e.symm)).trans ((Below.heap_alloc wc _ h (by have := HWc.out.size; omega)).trans (HWc.out.block h (by omega)))); clear ho4 hg4 hl4))
      rename_i hHeld
      have HOn := Lib.hid (show OutSt w1.heap.size (fun _ => False) nilV w1 (([] : List (Array Value)) ++ (ids.take (i + 1)).map (fun x : Idd => sgC 4 me x id0 k n s 1)) (z0 + i + 1) (.slice a4 (z0 + i + 1) c4) wz from by rw [HT.out, ← List.append_assoc]; exact HOz.out)
      clear hHeld hS9 hS hSa x0 x1 x2 x3 x4 x5 x6 x7 x8 x9 x10 x11 x12 x13 x14 HSr HRo HNp HNh HSt HX HO2 HO2c HT HOz HWc HXb HOl HPw HHw
      go_wp2_with fail
      go_roundw
      case rel => exact ⟨i + 1, a4, c4, by go_num, hlt, rfl, HOn.out⟩
      case measure => simp [intOf]; omega
    · obtain rfl : i = ids.length := by omega
      have hz0 := HZ0.out
      subst hz0
      have HO3 := Lib.hid (show OutSt w1.heap.size (fun _ => False) nilV w1 (ids.map (fun x : Idd => sgC 4 me x id0 k n s 1)) ids.length (.slice a5 ids.length c5) wr from by
        have := HO.out
        rwa [List.take_length, List.nil_append, Nat.zero_add] at this)
      clear HO hlt hi
      simp only [Nat.zero_add]
      obtain ⟨w3, rfl⟩ : ∃ x : World, x = wr := ⟨_, rfl⟩
      obtain ⟨a3, rfl⟩ : ∃ x, x = a5 := ⟨_, rfl⟩
      obtain ⟨d3, rfl⟩ : ∃ x, x = c5 := ⟨_, rfl⟩
      have HR3 := HO3
      clear HO3
      have h13 := HR3.out.turn.size
      have H3 := Lib.hid (H1.out.keep (fun b hb => HR3.out.old hb (by simp [Value.ownBlock]) (fun h => h)))
      go_wp2_with fail
      refine (theirs_any HSo.out HNo.out p ml mm mt me L M T w3 H3.out hl2).mono ?_
      rintro e w4 ⟨a4, d4, P, rfl, hp, ho, hb⟩
      have HPf := Lib.hid hp
      have hpl : P.length ≤ 256 := by rw [hp.length_eq]; exact hl2
      have HO4 := Lib.hid ho
      have h34 := hb.size
      have HO5 := Lib.hid (HR3.out.below hb).row
      have HB4 := Lib.hid hb
      have HH2 := Lib.hid ((hb.block h (by omega)).trans ((HR3.out.old hhB (by simp [Value.ownBlock]) (fun h => h)).trans HH1.out))
      have HP2 := Lib.hid ((hb.block p (by omega)).trans ((HR3.out.old hpB (by simp [Value.ownBlock]) (fun h => h)).trans HP1.out))
      have hs24 : w1.heap.size ≤ w4.heap.size := by omega
      clear hp ho hb H3
      go_wp2_with fail
      go_loopw [5, 39] (fun t5 t20 wr => SgLoop w1.heap.size (fun _ => False) (.slice a3 ids.length d3) w4 (ids.map (fun x : Idd => sgC 4 me x id0 k n s 1)) ids.length (fun x : Idd × Idd => sgC 7 me x.2 x.1 k n s 0) P t5 t20 wr) (fun _ t20 _ => P.length - (intOf t20).toNat)
      case atStart => exact ⟨0, _, _, rfl, Nat.zero_le _, rfl, (OutSt.start (by simp) HO5.out).take0⟩
      case round =>
        obtain ⟨i, a5, c5, rfl, hi, rfl, hO⟩ := hrel
        have HO := Lib.hid hO
        clear hO
        by_cases hlt : i < P.length
        · obtain ⟨g, rfl, hgb, hgl, hgc, hgm, hcell⟩ := row_tie HO4.out hlt
          generalize hx : P[i] = x at *
          have HT := Lib.hid (take_map (fun x : Idd × Idd => sgC 7 me x.2 x.1 k n s 0) hlt)
          rw [hx] at HT
          clear hx
          have HL := Lib.hid (show ∀ j v, (twoC x.1 x.2)[j]? = some v → wr.cell? ⟨g, i * 6 + j, none⟩ = some v from fun j v h => (World.cell?_of_block (HO.out.old hgl (fun e => by have := (HR3.out.row.lt g e).2; omega) (fun h => h))).trans (hcell j v h))
          clear hcell
          go_upto_region 12 with (refine wpList_load_at rfl 62 (.tmp 41) rfl g (i * 6) rfl (twoC x.1 x.2) _ HL.out Try.underlying62 rfl sizeTie ?_)
          have HX := Lib.hid (heap_new wr (.cells (twoC x.1 x.2) 62))
          have HA2 := Lib.hid ((Below.refl wr.heap.size wr).alloc (Nat.le_refl _) (.cells (twoC x.1 x.2) 62))
          have HO2 := Lib.hid (HO.out.below HA2.out)
          have hs2 : wr.heap.size < (wr.alloc (.cells (twoC x.1 x.2) 62)).heap.size := by simp
          have HOl := Lib.hid (HO.out.apart (b := wr.heap.size) (.inr (Nat.le_refl _)))
          have HZ := Lib.hid (HO.out.turn.size)
          have HPw := Lib.hid ((HA2.out.block p (by have := HZ.out; omega)).trans ((HO.out.old (b := p) (by omega) (fun e => by have := (HR3.out.row.lt _ e).1; omega) (fun h => h)).trans HP2.out))
          have HHw := Lib.hid ((HA2.out.block h (by have := HZ.out; omega)).trans ((HO.out.old (b := h) (by omega) (fun e => by have := (HR3.out.row.lt _ e).1; omega) (fun h => h)).trans HH2.out))
          have hpb : p < wr.heap.size := by have := HZ.out; omega
          have hhb : h < wr.heap.size := by have := HZ.out; omega
          clear HL HO HA2
          generalize wr.alloc (.cells (twoC x.1 x.2) 62) = w2 at *
          generalize wr.heap.size = b at *
          have HSt : Hid (∀ w' : World, w'.heap[b]? = w2.heap[b]? → w'.heap[p]? = w2.heap[p]? → w'.heap[h]? = w2.heap[h]? → w'.cell? ⟨p, 0, none⟩ = some (.int .i64 me.node) ∧ w'.cell? ⟨p, 1, none⟩ = some (.int .u32 me.boot) ∧ w'.cell? ⟨p, 2, none⟩ = some (.int .u64 me.n) ∧ w'.cell? ⟨b, 0, none⟩ = some (.int .i64 x.1.node) ∧ w'.cell? ⟨b, 1, none⟩ = some (.int .u32 x.1.boot) ∧ w'.cell? ⟨b, 2, none⟩ = some (.int .u64 x.1.n) ∧ w'.cell? ⟨b, 3, none⟩ = some (.int .i64 x.2.node) ∧ w'.cell? ⟨b, 4, none⟩ = some (.int .u32 x.2.boot) ∧ w'.cell? ⟨b, 5, none⟩ = some (.int .u64 x.2.n) ∧ w'.cell? ⟨h, 0, none⟩ = some (.int .i64 k) ∧ w'.cell? ⟨h, 1, none⟩ = some (.int .i64 n) ∧ w'.cell? ⟨h, 2, none⟩ = some (.complex .f64 0 0) ∧ w'.cell? ⟨h, 3, none⟩ = some (.string s) ∧ w'.cell? ⟨h, 4, none⟩ = some (.int .i64 0) ∧ w'.cell? ⟨h, 5, none⟩ = some (.int .u32 0) ∧ w'.cell? ⟨h, 6, none⟩ = some (.int .u64 0) ∧ w'.cell? ⟨h, 7, none⟩ = some (nilV) ∧ w'.cell? ⟨h, 8, none⟩ = some (nilV)) := Lib.hid (fun w' h1 h2 h3 => by
            have e1 := h1.trans HX.out
            have e2 := h2.trans HPw.out
            have e3 := h3.trans HHw.out
            refine ⟨?_, ?_, ?_, ?_, ?_, ?_, ?_, ?_, ?_, ?_, ?_, ?_, ?_, ?_, ?_, ?_, ?_, ?_⟩ <;> simp [World.cell?, e1, e2, e3])
          have HNp := Lib.hid (HO2.out.apart (b := p) (.inl hpB))
          have HNh := Lib.hid (HO2.out.apart (b := h) (.inl hhB))
          have hS := HSt.out w2.drew rfl rfl rfl
          have HWc := Lib.hid (Below.refl w2.heap.size w2).drew
          have HRo := Lib.hid (fun o => (HO2.out.row.alloc o).drew)
          have HN1 := Lib.hid (show ids.length + i + 1 ≤ maxLen by unfold maxLen; omega)
          have HN2 := Lib.hid (show (ids.length + i + 1) * 208 ≤ 140737488355328 by omega)
          obtain ⟨x0, x1, x2, x3, x4, x5, x6, x7, x8, x9, x10, x11, x12, x13, x14, x15, x16, x17⟩ := HSt.out w2 rfl rfl rfl
          go_region_held3 (fun w' => w'.cell? ⟨p, 0, none⟩ = some (.int .i64 me.node) ∧ w'.cell? ⟨p, 1, none⟩ = some (.int .u32 me.boot) ∧ w'.cell? ⟨p, 2, none⟩ = some (.int .u64 me.n) ∧ w'.cell? ⟨b, 0, none⟩ = some (.int .i64 x.1.node) ∧ w'.cell? ⟨b, 1, none⟩ = some (.int .u32 x.1.boot) ∧ w'.cell? ⟨b, 2, none⟩ = some (.int .u64 x.1.n) ∧ w'.cell? ⟨b, 3, none⟩ = some (.int .i64 x.2.node) ∧ w'.cell? ⟨b, 4, none⟩ = some (.int .u32 x.2.boot) ∧ w'.cell? ⟨b, 5, none⟩ = some (.int .u64 x.2.n) ∧ w'.cell? ⟨h, 0, none⟩ = some (.int .i64 k) ∧ w'.cell? ⟨h, 1, none⟩ = some (.int .i64 n) ∧ w'.cell? ⟨h, 2, none⟩ = some (.complex .f64 0 0) ∧ w'.cell? ⟨h, 3, none⟩ = some (.string s) ∧ w'.cell? ⟨h, 4, none⟩ = some (.int .i64 0) ∧ w'.cell? ⟨h, 5, none⟩ = some (.int .u32 0) ∧ w'.cell? ⟨h, 6, none⟩ = some (.int .u64 0) ∧ w'.cell? ⟨h, 7, none⟩ = some (nilV) ∧ w'.cell? ⟨h, 8, none⟩ = some (nilV)) (first
              | (with_reducible exact hS)
              | (with_reducible exact hSa _)
              | (with_reducible exact hS9)
              | go_keep)
            (first
              | (go_at_call 23; refine (copy_leaf k n s HR.out _).mono ?_; rintro e wc ⟨rfl, hbc⟩; have hH := HWc.out.trans (hbc.mono HWc.out.size); clear HWc; have HWc := Lib.hid hH; clear hH hbc; have hS := HSt.out _ (HWc.out.block b hs2) (HWc.out.block p (by omega)) (HWc.out.block h (by omega)); have hSa := fun o => HSt.out (wc.alloc o) ((Below.heap_alloc wc o b (Nat.lt_of_lt_of_le hs2 HWc.out.size)).trans (HWc.out.block b hs2)) ((Below.heap_alloc wc o p (by have := HWc.out.size; omega)).trans (HWc.out.block p (by omega))) ((Below.heap_alloc wc o h (by have := HWc.out.size; omega)).trans (HWc.out.block h (by omega))); have HO2c := Lib.hid (HO2.out.below HWc.out); clear HRo; have HRo := Lib.hid (fun o => HO2c.out.row.alloc o); have HXb := Lib.hid (fun o => (Below.refl wc.heap.size wc).alloc (Nat.le_refl _) o); have HSr := Lib.hid (fun w => src_new Try.underlying38 (sgC 7 me x.2 x.1 k n s 0) rfl 47 (sg_one _ _ _ _ _ _ _ _) w); have HN3 := Lib.hid (show ∀ o, w1.heap.size ≤ (wc.alloc o).heap.size from fun o => by have := HWc.out.size; have := HZ.out; simp; omega))
              | (refine step_app (by rfl) (.tmp 43) (.tmp 55) 38 38 (by rfl) w1.heap.size 47 i0 (.agg sgZ) 20 208 Try.underlying38 X1.out X2.out X3.out X4.out rfl (by decide) (.slice a5 (ids.length + i) c5) (ids.length + i) _ (by rfl) (HRo.out _) _ 1 (sgC 7 me x.2 x.1 k n s 0).toList (by rfl) (HSr.out _) HN1.out HN2.out (HN3.out _) ?_; intro a4 c4 wz ho4 hg4 hl4; have HOz := Lib.hid (HO2c.out.app (HXb.out _) ho4 hg4 hl4); have hS9 := HSt.out wz ((hg4.block b (by have := HWc.out.size; simp; omega) (fun e => HOl.out e.symm)).trans ((Below.heap_alloc wc _ b (by have := HWc.out.size; omega)).trans (HWc.out.block b hs2))) ((hg4.block p (by have := HWc.out.size; simp; omega) (fun e => HNp.out e.symm)).trans ((Below.heap_alloc wc _ p (by have := HWc.out.size; omega)).trans (HWc.out.block p (by omega)))) ((hg4.block h (by have := HWc.out.size; simp; omega) (fun e => HNh.out e.symm)).trans ((Below.heap_alloc wc _ h (by have := HWc.out.size; omega)).trans (HWc.out.block h (by omega)))); clear ho4 hg4 hl4))
          rename_i hHeld
          have HOn := Lib.hid (show OutSt w1.heap.size (fun _ => False) (.slice a3 ids.length d3) w4 ((ids.map (fun x : Idd => sgC 4 me x id0 k n s 1)) ++ (P.take (i + 1)).map (fun x : Idd × Idd => sgC 7 me x.2 x.1 k n s 0)) (ids.length + i + 1) (.slice a4 (ids.length + i + 1) c4) wz from by rw [HT.out, ← List.append_assoc]; exact HOz.out)
          clear hHeld hS9 hS hSa x0 x1 x2 x3 x4 x5 x6 x7 x8 x9 x10 x11 x12 x13 x14 x15 x16 x17 HSr HRo HNp HNh HSt HX HO2 HO2c HT HOz HWc HXb HOl HPw HHw
          go_wp2_with fail
          go_roundw
          case rel => exact ⟨i + 1, a4, c4, by go_num, hlt, rfl, HOn.out⟩
          case measure => simp [intOf]; omega
        · obtain rfl : i = P.length := by omega
          have HO6 := Lib.hid HO.out
          rw [List.take_length] at HO6
          clear HO hlt hi
          have hold : ∀ b, b < w1.heap.size → wr.heap[b]? = w1.heap[b]? := fun b hb => (HO6.out.old (b := b) (by omega) (fun e => by have := (HR3.out.row.lt _ e).1; omega) (fun h => h)).trans ((HB4.out.block b (by omega)).trans (HR3.out.old hb (by simp [Value.ownBlock]) (fun h => h)))
          have H6 := Lib.hid (H1.out.keep hold)
          have HB6 := Lib.hid (show Below h w wr from HB1.out.trans (((HR3.out.turn.below (B := h) (by omega) (fun i e => by simp [Value.ownBlock] at e)).trans (HB4.out.mono (by omega))).trans (HO6.out.turn.below (B := h) (by omega) (fun i e => by
            rcases e with e | e
            · have := (HR3.out.row.lt _ e).1
              omega
            · exact e.elim))))
          clear hold
          obtain ⟨-, -, -, z3, -, -⟩ := H6.out.six
          obtain ⟨w7, hrun, hm7, ht7⟩ := H6.out.links.clear Try.underlying49 0
          have HM7 := Lib.hid hm7
          have HT7 := Lib.hid ht7
          clear hm7 ht7
          go_upto_region 15 with fail
          clear hrun
          have H7 := Lib.hid (H6.out.setL (L' := []) HM7.out HT7.out (by simp))
          clear z3 HM7
          obtain ⟨-, -, -, -, z4, -⟩ := H7.out.six
          obtain ⟨w8, hrun, hm8, ht8⟩ := H7.out.mine.clear Try.underlying50 0
          have HM8 := Lib.hid hm8
          have HT8 := Lib.hid ht8
          clear hm8 ht8
          go_upto_region 16 with fail
          clear hrun
          have H8 := Lib.hid (H7.out.setM (M' := []) HM8.out HT8.out (by simp))
          clear z4 HM8
          obtain ⟨-, -, -, -, -, z5⟩ := H8.out.six
          obtain ⟨w9, hrun, hm9, ht9⟩ := H8.out.theirs.clear Try.underlying50 0
          have HM9 := Lib.hid hm9
          have HT9 := Lib.hid ht9
          clear hm9 ht9
          go_upto_region 17 with fail
          clear hrun
          have H9 := Lib.hid (H8.out.setT (T' := []) HM9.out HT9.out (by simp))
          clear z5 HM9
          have HTr := Lib.hid (((turned_turn HT7.out (mm := mm) (mt := mt) (ml := ml) (.inl rfl)).trans (turned_turn HT8.out (.inr (.inl rfl)))).trans (turned_turn HT9.out (.inr (.inr rfl))))
          have hTS : ∀ b, TS ml mm mt b → b < w1.heap.size := fun b e => by
            rcases e with rfl | rfl | rfl
            · exact H1.out.links.lt
            · exact H1.out.mine.lt
            · exact H1.out.theirs.lt
          have HRw := Lib.hid (row_same HO6.out.row (fun b e hl => HTr.out.block b hl (fun t => by have := hTS b t; have := (HO6.out.row.lt b e).1; omega)))
          clear HT7 HT8 HT9 H6 H7 H8 hTS
          go_wp2_with fail
          go_ret
          have hTw : Turn (TS ml mm mt) w _ := (Turn.of_below (hh ▸ HB6.out)).trans HTr.out
          exact ⟨a5, c5, ids, P, rfl, HPe.out, HPf.out, row_base HRw.out (by omega), H9.out, hTw⟩
end Go.Proofs.Ytkpeelhanmekdaa
