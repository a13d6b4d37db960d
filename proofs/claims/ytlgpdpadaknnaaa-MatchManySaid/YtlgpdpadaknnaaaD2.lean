/- match.filled and match.Fill: a variable and an atom, in a tuple. -/
import Derived.Test.YtlgpdpadaknnaaaD1
import Derived.Outline
namespace Go.Proofs.Ytlgpdpadaknnaaa
open Go.RowKit Go.Maps
set_option maxRecDepth 100000
attribute [local go_sem] run_store_complex run_store_func' run_store_nilFunc'

theorem results_cell2 {P : Program} {fn : Func} {p q : Tmp} {ty : TypeId} (h : fn.results = #[.cell p ty, .tmp q]) (tmps : Array Value) (w : World) (g : Nat) (t : TypeId) (cs : Array Value) (fr : Nat × Nat) (d : TypeDesc) (v : Value)
    (hp : tmps.getD p undef = .pointer (some ⟨g, 0, none⟩)) (hq : tmps.getD q undef = v) (hg : w.heap[g]? = some (.cells cs t fr))
    (hu : P.underlying ty = some d) (hd : (match d with | .struct _ | .array _ _ => true | _ => false) = true) (hi : (P.info? ty).map (·.size) = some cs.size) :
    (results fn tmps).run P w = .ok (.tuple #[.agg cs, v]) w := by
  have hp' : tmps[p]?.getD undef = .pointer (some ⟨g, 0, none⟩) := by simpa using hp
  have hq' : tmps[q]?.getD undef = v := by simpa using hq
  simp [results, h, hp', hq', asAddr, run_loadVar_row w g t ty cs fr d hg hu hd hi]
set_option maxHeartbeats 1000000 in
theorem filled_atom (s : ByteArray) (mv : Value) (w : World) : Calls Try.prog 19 #[lfV 3 0 s, mv] w (RB w (.tuple #[lfV 3 0 s, .bool true])) := by
  go_enter Try.func19, Try.ntmps19
  go_wp2_with fail
  refine wp_loop_rounds 1 ?_
  rw [rounds_succ]
  go_wp2_with fail
  exact bodyPost_ret (v := .tuple #[lfV 3 0 s, .bool true]) (by simp [results, Try.results19, go_sem]) rfl ⟨rfl, (((Below.refl w.heap.size w).alloc (Nat.le_refl _) _).alloc (by simp) _).alloc (by simp; omega) _⟩
set_option maxHeartbeats 1000000 in
theorem filled_var (s : ByteArray) (hs : s.size ≤ maxLen) (n : Int) (hr : inR n = true) (m nn : Nat) (B : List (ByteArray × Value)) (w : World) (hm : bindAt w m nn B) (hnd : (B.map (·.1)).Nodup) (hin : (s, lfV 1 n ⟨#[]⟩) ∈ B) :
    Calls Try.prog 19 #[lfV 9 0 s, .map (some m)] w (RB w (.tuple #[lfV 1 n ⟨#[]⟩, .bool true])) := by
  have hi35 : (Try.prog.info? 31).map (·.size) = some (lfC 1 n ⟨#[]⟩).size := by kernel_rfl
  have hall : (lfC 1 n ⟨#[]⟩).all (·.oneCell') = true := by simp [Array.all, Value.oneCell']
  have HKe := Lib.hid (keyS hs)
  have HAt := Lib.hid (at_bindM hnd hin (.held (lfV 0 0 ⟨#[]⟩)))
  have HHas : Hid (Maps.has (bindM B) (key s) = true) := Lib.hid (by rw [has_bindM]; exact decide_eq_true (List.mem_map_of_mem (f := (·.1)) hin))
  have HRt := Lib.hid (right_int n hr)
  have HM := Lib.hid ((hm.alloc (.cells (lfC 9 0 s) 31)).alloc (.cells zC 31))
  clear hm hnd hin hr
  go_enter Try.func19, Try.ntmps19
  go_upto_region 6 with (at_lookup; go_loud (refine wpList_held_ok _ rfl _ _ 50 rfl 9 31 lawS Try.underlying50 (lfV 0 0 ⟨#[]⟩) (zeroT _) m _ _ rfl HM.out _ _ rfl HKe.out _ HAt.out true HHas.out ?_))
  have HB3 : Hid (Below w.heap.size w (((w.alloc (.cells (lfC 9 0 s) 31)).alloc (.cells zC 31)).alloc (.cells (lfC 1 n ⟨#[]⟩) 31))) := Lib.hid ((((Below.refl w.heap.size w).alloc (Nat.le_refl _) _).alloc (by simp) _).alloc (by simp; omega) _)
  have HZ3 : Hid ((((w.alloc (.cells (lfC 9 0 s) 31)).alloc (.cells zC 31)).alloc (.cells (lfC 1 n ⟨#[]⟩) 31)).heap[w.heap.size + 1]? = some (.cells zC 31 (0, 0))) := Lib.hid (by
    have := heap_new2 (w.alloc (.cells (lfC 9 0 s) 31)) (.cells zC 31) (.cells (lfC 1 n ⟨#[]⟩) 31)
    simpa using this)
  have HX3 : Hid ((((w.alloc (.cells (lfC 9 0 s) 31)).alloc (.cells zC 31)).alloc (.cells (lfC 1 n ⟨#[]⟩) 31)).heap[w.heap.size + 1 + 1]? = some (.cells (lfC 1 n ⟨#[]⟩) 31 (0, 0))) := Lib.hid (by
    have := heap_new ((w.alloc (.cells (lfC 9 0 s) 31)).alloc (.cells zC 31)) (.cells (lfC 1 n ⟨#[]⟩) 31)
    simpa using this)
  clear HM HAt HHas HKe
  generalize ((w.alloc (.cells (lfC 9 0 s) 31)).alloc (.cells zC 31)).alloc (.cells (lfC 1 n ⟨#[]⟩) 31) = w3 at *
  obtain ⟨k0, k1, k2, k3, k4, k5, k6, k7, k8⟩ := nine_of HX3.out
  go_wp2_with fail
  refine (copy_leaf 1 n ⟨#[]⟩ HRt.out _).mono ?_
  rintro e w4 ⟨rfl, hb4⟩
  have HZ4 := Lib.hid ((hb4.block _ (blk_lt HZ3.out)).trans HZ3.out)
  have HB4 := Lib.hid (HB3.out.trans (hb4.mono HB3.out.size))
  clear hb4 k0 k1 k2 k3 k4 k5 k6 k7 k8 HZ3 HX3 HB3
  go_wp2_with (refine wpList_store_row rfl 31 (.tmp 4) (.tmp 28) rfl (w.heap.size + 1) (lfC 1 n ⟨#[]⟩) rfl rfl 31 zC HZ4.out hi35 rfl hall ?_)
  have HZ5 := setRow_heap w4 (w.heap.size + 1) zC (lfC 1 n ⟨#[]⟩) 31 (0, 0) HZ4.out
  have HB5 := Lib.hid (HB4.out.trans (setRow_below (w := w4) (cs := lfC 1 n ⟨#[]⟩) (Nat.le_succ w.heap.size)))
  exact bodyPost_ret (v := .tuple #[lfV 1 n ⟨#[]⟩, .bool true]) (results_cell2 Try.results19 _ _ _ 31 _ (0, 0) _ _ rfl rfl HZ5 Try.underlying31 rfl hi35) rfl ⟨rfl, HB5.out⟩
theorem keep_tt2 {wa wz : World} {tt : Nat} {v : Value} {o : Obj} {cs : Array Value} {t : TypeId} (hx : ∀ b, v.ownBlock = some b → b ≠ tt) (hg : (wa.alloc o).grownBy wz v.ownBlock) (h : wa.heap[tt]? = some (.cells cs t (0, 0))) : wz.heap[tt]? = some (.cells cs t (0, 0)) := by
  have hl : tt < wa.heap.size := (Array.getElem?_eq_some_iff.1 h).1
  exact ((hg.block tt (by simp; omega) (fun e => hx tt e.symm rfl)).trans (Below.heap_alloc wa o tt hl)).trans h
theorem grown_below3 {B base : Nat} {w w1 w2 : World} {e size n : Nat} {v : Value} {xs : List Value} {o : Obj} (hb : Below B w w1) (hB : B ≤ w1.heap.size) (ho : w1.ownsRow base e size v n xs) (hbase : B ≤ base) (hg : (w1.alloc o).grownBy w2 v.ownBlock) : Below B w w2 :=
  (hb.alloc hB o).trans ⟨hg.os, hg.tape, hg.output, hg.size, fun i hi => hg.block i (by simp; omega) (fun e => by have := (ho.lt i e.symm).1; omega)⟩
set_option maxHeartbeats 2000000 in
theorem filled_list (k : Nat) (hk : k = 6 ∨ k = 7) (ps rs : List Lv) (hlen : ps.length = rs.length) (hl : ps.length ≤ 256) (m nn : Nat) (B : List (ByteArray × Value)) (F : Nat → Prop) (pv : Value) (w : World) (hp : LRow w F pv ps) (hF : ∀ b, F b → b < w.heap.size) (hm : bindAt w m nn B)
    (hrec : ∀ (i : Nat) (h : i < ps.length) (h' : i < rs.length) (w : World), bindAt w m nn B → Calls Try.prog 19 #[.agg (lvC ps[i]), .map (some m)] w (RB w (.tuple #[.agg (lvC rs[i]), .bool true]))) :
    Calls Try.prog 19 #[.agg (tC k pv), .map (some m)] w (fun e w' => ∃ (a : Option Addr) (c : Nat), e = .returned (.tuple #[.agg (tC k (.slice a rs.length c)), .bool true]) ∧ LRow w' (fun b => since w b ∧ b < w'.heap.size) (.slice a rs.length c) rs ∧ Below w.heap.size w w') := by
  obtain ⟨pa, pc, rfl⟩ := row_slice hp.1
  have hl2 : (ps.length : Int) ≤ 256 := by omega
  have hkf : ((k : Int) == 9) = false ∧ ((k : Int) == 10) = false := by
    rcases hk with rfl | rfl <;> exact ⟨by decide, by decide⟩
  obtain ⟨kf9, kf10⟩ := hkf
  have HP := Lib.hid hp
  have HF := Lib.hid hF
  have HM := Lib.hid hm
  have HR := Lib.hid hrec
  have HLen := Lib.hid hlen
  clear hp hF hm hrec hlen
  go_enter Try.func19, Try.ntmps19
  go_wp2_with fail
  have HB3 := Lib.hid ((((Below.refl w.heap.size w).alloc (Nat.le_refl _) (.cells (tC k (.slice pa ps.length pc)) 31)).alloc (by simp) (.cells zC 31)).alloc (by simp; omega) (.cells (tC k nilV) 31))
  have HZ3 : Hid ((((w.alloc (.cells (tC k (.slice pa ps.length pc)) 31)).alloc (.cells zC 31)).alloc (.cells (tC k nilV) 31)).heap[w.heap.size + 1]? = some (.cells zC 31 (0, 0))) := Lib.hid (by
    have := heap_new2 (w.alloc (.cells (tC k (.slice pa ps.length pc)) 31)) (.cells zC 31) (.cells (tC k nilV) 31)
    simpa using this)
  have HX3 : Hid ((((w.alloc (.cells (tC k (.slice pa ps.length pc)) 31)).alloc (.cells zC 31)).alloc (.cells (tC k nilV) 31)).heap[w.heap.size + 1 + 1]? = some (.cells (tC k nilV) 31 (0, 0))) := Lib.hid (by
    have := heap_new ((w.alloc (.cells (tC k (.slice pa ps.length pc)) 31)).alloc (.cells zC 31)) (.cells (tC k nilV) 31)
    simpa using this)
  have HS3 : Hid (w.heap.size + 3 ≤ (((w.alloc (.cells (tC k (.slice pa ps.length pc)) 31)).alloc (.cells zC 31)).alloc (.cells (tC k nilV) 31)).heap.size) := Lib.hid (by simp)
  obtain ⟨i0, hi, hz0, hz1, hz2⟩ := info_parts infoTm
  have X1 := Lib.hid hi
  have X2 := Lib.hid hz0
  have X3 := Lib.hid hz1
  have X4 := Lib.hid hz2
  clear hi hz0 hz1 hz2
  generalize ((w.alloc (.cells (tC k (.slice pa ps.length pc)) 31)).alloc (.cells zC 31)).alloc (.cells (tC k nilV) 31) = w3 at *
  go_loopw [39] (fun t39 wx => ∃ (i : Nat) (xa : Option Addr) (xc : Nat), i ≤ ps.length ∧ t39 = .int .i64 i ∧ wx.heap[w.heap.size + 1 + 1]? = some (.cells (tC k (.slice xa i xc)) 31 (0, 0)) ∧ wx.heap[w.heap.size + 1]? = some (.cells zC 31 (0, 0)) ∧ wx.ownsRow (w.heap.size + 3) 31 9 (.slice xa i xc) i (cat ((rs.take i).map lvC)) ∧ Below w.heap.size w wx ∧ (i = 0 → xa = none) ∧ w.heap.size + 3 ≤ wx.heap.size) (fun t39 _ => ps.length - (intOf t39).toNat)
  case atStart => exact ⟨0, none, 0, by omega, rfl, HX3.out, HZ3.out, World.ownsRow_nil _ _ _ _, HB3.out, fun _ => rfl, HS3.out⟩
  case round =>
    obtain ⟨i, xa, xc, hi, rfl, hX, hZ, hO, hB, hnil, hsz⟩ := hrel
    have HX := Lib.hid hX
    have HZ := Lib.hid hZ
    have HO := Lib.hid hO
    have HB := Lib.hid hB
    have HNil := Lib.hid hnil
    clear hX hZ hO hB hnil HX3 HZ3 HB3 HS3
    by_cases hlt : i < ps.length
    · have hlr : i < rs.length := by have := HLen.out; omega
      obtain ⟨g, cap, hvg, hg, h9⟩ := HP.out.nine hlt
      cases hvg
      have hgw := HF.out g hg
      obtain ⟨k0, k1, k2, k3, k4, k5, k6, k7, k8⟩ := h9.block (HB.out.block g hgw)
      have HRi := Lib.hid (fun w => HR.out i hlt hlr w)
      have HTk := Lib.hid (show rs.take (i + 1) = rs.take i ++ [rs[i]'hlr] from List.take_succ_eq_append_getElem hlr)
      obtain ⟨p, hp⟩ : ∃ p, ps[i]'hlt = p := ⟨_, rfl⟩
      obtain ⟨r, hr⟩ : ∃ r, rs[i]'hlr = r := ⟨_, rfl⟩
      rw [hp] at k0 k1 k3 HRi
      rw [hr] at HRi HTk
      clear hp hr h9 hg hgw
      obtain ⟨pk, pn, ps1⟩ := p
      obtain ⟨rk, rn, rs1⟩ := r
      simp only at k0 k1 k3
      have HMi := Lib.hid (map_same HM.out (HB.out.block m HM.out.lt))
      have hlt' : (i : Int) < (ps.length : Int) := by omega
      have hi0 : (0 : Int) ≤ (i : Int) := by omega
      go_wp2_with fail
      refine (HRi.out _ (HMi.out.alloc _)).mono ?_
      rintro e w5 ⟨rfl, hb5⟩
      have hb5' : Below wr.heap.size wr w5 := ((Below.refl _ wr).alloc (Nat.le_refl _) _).trans (hb5.mono (by simp))
      have HX5 := Lib.hid ((hb5'.block _ (by omega)).trans HX.out)
      have HZ5 := Lib.hid ((hb5'.block _ (by omega)).trans HZ.out)
      have HO5 := Lib.hid (row_below HO.out hb5')
      have HB5 := Lib.hid (HB.out.trans (hb5'.mono HB.out.size))
      have hs5 : w.heap.size + 3 ≤ w5.heap.size := by have := hb5'.size; omega
      clear hb5 hb5' k0 k1 k2 k3 k4 k5 k6 k7 k8 HX HZ HO HB HMi
      go_upto_region 16 with fail
      have hb6 := (Below.refl w5.heap.size w5).alloc (Nat.le_refl _) (.cells (lfC rk rn rs1) 31)
      have HX6 := Lib.hid ((hb6.block _ (by omega)).trans HX5.out)
      have HZ6 := Lib.hid ((hb6.block _ (by omega)).trans HZ5.out)
      have HO6 := Lib.hid (row_below HO5.out hb6)
      have HB6 := Lib.hid (HB5.out.trans (hb6.mono HB5.out.size))
      have hs6 : w.heap.size + 3 ≤ (w5.alloc (.cells (lfC rk rn rs1) 31)).heap.size := by simp; omega
      have hn6 := nine_of (heap_new w5 (.cells (lfC rk rn rs1) 31))
      clear hb6 HX5 HZ5 HO5 HB5 hs5
      generalize w5.alloc (.cells (lfC rk rn rs1) 31) = w6 at *
      generalize w5.heap.size = t11 at *
      obtain ⟨k0, k1, k2, k3, k4, k5, k6, k7, k8⟩ := hn6
      have c8 : w6.cell? ⟨w.heap.size + 1 + 1, 8, none⟩ = some (.slice xa i xc) := by simp [World.cell?, HX6.out]
      have HL1 := Lib.hid (show i + 1 ≤ maxLen by unfold maxLen; omega)
      have HL2 := Lib.hid (show (i + 1) * 120 ≤ 140737488355328 by omega)
      have HXa : Hid (∀ b, (Value.slice xa i xc).ownBlock = some b → b ≠ w.heap.size + 1 + 1) := Lib.hid (fun b e => by have := (HO6.out.lt b e).1; omega)
      go_wp2_with (at_builtin; go_loud (refine wpList_app _ rfl (.tmp 53) (.tmp 55) 23 23 rfl (w.heap.size + 3) 31 i0 (.agg zC) 9 120 Try.underlying23 X1.out X2.out X3.out X4.out rfl (by decide) _ _ _ rfl (HO6.out.alloc _) _ 1 (lfC rk rn rs1).toList rfl (src_new Try.underlying23 (lfC rk rn rs1) rfl 31 (by simp [Value.oneCell']) w6) HL1.out HL2.out (by simp; omega) ?_; intro a4 c4 wz ho4 hg4 hn4 hl4; have hxz := keep_tt2 HXa.out hg4 HX6.out; have c8z : wz.cell? ⟨w.heap.size + 1 + 1, 8, none⟩ = some (.slice xa i xc) := (by simp [World.cell?, hxz]); have f8z : wz.frozen? ⟨w.heap.size + 1 + 1, 8, none⟩ = false := (by simp [World.frozen?, hxz]); have HXz := Lib.hid hxz; have HZz := Lib.hid (keep_tt2 (tt := w.heap.size + 1) (fun b e => (by have := (HO6.out.lt b e).1; omega)) hg4 HZ6.out); have HOz := Lib.hid ho4; have HBz := Lib.hid (grown_below3 HB6.out HB6.out.size HO6.out (by omega) hg4); clear ho4 hg4 hl4 hn4 hxz))
      go_round
      case rel =>
        have hne : ∀ b, b ≠ w.heap.size + 1 + 1 → (wz.setCell ⟨w.heap.size + 1 + 1, 8, none⟩ (.slice a4 (i + 1) c4)).heap[b]? = wz.heap[b]? := fun b h => Below.heap_setCell _ _ _ _ h
        have hsz7 : w.heap.size + 3 ≤ wz.heap.size := by
          have h1 := blk_lt HXz.out
          have h2 := HOz.out.2
          rcases h2 with ⟨_, h0⟩ | ⟨g2, cap2, cur2, hv2, hb2, hg2, _⟩
          · omega
          · have := blk_lt hg2
            omega
        refine ⟨i + 1, a4, c4, by omega, by go_num, by rw [heap_setCell_at HXz.out]; rfl, (hne _ (by omega)).trans HZz.out, ?_, ?_, fun h => by omega, by simp [World.setCell]; omega⟩
        · rw [HTk.out, List.map_append, List.map_singleton, cat_snoc]
          exact row_same HOz.out (fun b e _ => hne b (by have := (HOz.out.lt b e).1; omega))
        · exact HBz.out.trans ((Turn.setCell wz (w.heap.size + 1 + 1) 8 _).below HBz.out.size (fun i e => by omega))
      case measure => simp [intOf]; omega
    · obtain rfl : i = ps.length := by omega
      have HO2 := HO.out
      rw [HLen.out, List.take_length] at HO2
      have HO3 := Lib.hid HO2
      clear HO2
      go_wp2_with (first
        | (refine wpList_load_row rfl 31 (.tmp 8) rfl (w.heap.size + 1 + 1) rfl 31 (tC k (.slice xa ps.length xc)) (0, 0) _ HX.out Try.underlying31 rfl infoT9 ?_)
        | (refine wpList_store_row rfl 31 (.tmp 4) (.tmp 59) rfl (w.heap.size + 1) (tC k (.slice xa ps.length xc)) rfl rfl 31 zC HZ.out infoT9 rfl (by simp [Array.all, Value.oneCell']) ?_))
      have HZ5 := setRow_heap wr (w.heap.size + 1) zC (tC k (.slice xa ps.length xc)) 31 (0, 0) HZ.out
      have HB5 := Lib.hid (HB.out.trans (setRow_below (w := wr) (cs := tC k (.slice xa ps.length xc)) (Nat.le_succ w.heap.size)))
      have hl3 := HLen.out
      refine bodyPost_ret (v := .tuple #[.agg (tC k (.slice xa ps.length xc)), .bool true]) (results_cell2 Try.results19 _ _ _ 31 _ (0, 0) _ _ rfl rfl HZ5 Try.underlying31 rfl infoT9) rfl ⟨xa, xc, by rw [hl3], ?_, HB5.out⟩
      have HO5 := row_same (w' := wr.setRow (w.heap.size + 1) (tC k (.slice xa ps.length xc))) HO3.out (fun b e _ => setRow_other _ _ _ _ (by have := (HO3.out.lt b e).1; omega))
      exact list_close HO5 (fun h => HNil.out (by omega)) (by omega)
end Go.Proofs.Ytlgpdpadaknnaaa
