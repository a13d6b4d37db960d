/- Several texts in one. -/
import Derived.Test.YtgadkiljnebicaaD31
namespace Go.Proofs.Ytgadkiljnebicaa
open Go.Lib (hid)
open Go.RowKit
set_option maxRecDepth 100000
attribute [local go_sem] run_store_complex
theorem marks2 (k : Int) (h1 : 1 ≤ k) (h2 : k ≤ 11) : (markK k == 0) = false ∧ (bits .and .i64 (markK k) 8 != 0) = hasN k ∧ (bits .and .i64 (markK k) 16 != 0) = hasX k := by
 rcases kind_cases h1 h2 with rfl | rfl | rfl | rfl | rfl | rfl | rfl | rfl | rfl | rfl | rfl <;> (refine ⟨?_,?_,?_⟩ <;> decide)
theorem ids_bad {k : Int} {f t r : I3} {j : Nat} (hj : j < (hasK k).all.length) (hb : (idAt f t r (hasK k).all[j].1).ok = false) : idsB k f t r = false := by
 unfold idsB
 rw [List.all_eq_false]
 exact ⟨_,List.getElem_mem hj,by simp [hb]⟩
theorem whole_ids {k : Int} {f t r : I3} {x : Tm} {n : Int} (h : idsB k f t r = false) : wholeB k f t r x n = false := by simp [wholeB,h]
def WholePost (k : Int) (f t r : I3) (x : Tm) (n : Int) (W : World) (e : Ending) (w' : World) : Prop :=
 ∃ cs,e = .returned (.tuple #[.agg cs,.bool (wholeB k f t r x n)]) ∧ (∃ (h : Hd) (a1 : Option Addr) (m1 c1 : Nat) (a2 : Option Addr) (m2 c2 : Nat),cs = hdC h (.slice a1 m1 c1) (.slice a2 m2 c2)) ∧ Below W.heap.size W w' ∧ (wholeB k f t r x n = true → Rep w' (fun b => b < w'.heap.size) (.mk { kind := 6 } (sgParts k f t r x n)) cs)
set_option maxHeartbeats 8000000 in
theorem whole_any (k : Int) (h1 : 1 ≤ k) (h2 : k ≤ 11) (f t r : I3) (x : Tm) (n : Int) (a1 : Option Addr) (m1 c1 : Nat) (a2 : Option Addr) (m2 c2 : Nat) (w : World) (hrep : Rep w (fun b => b < w.heap.size) x (hdC x.hd (.slice a1 m1 c1) (.slice a2 m2 c2)))
  (hf : (hasK k).f = false → f = I3.zero) (ht : (hasK k).t = false → t = I3.zero) (hr : (hasK k).r = false → r = I3.zero) (hn : hasN k = false → n = 0) (hn0 : 0 ≤ n) (hx : hasX k = false → x = .mk {} []) (hg : hasX k = true → GoodT 24 x ∧ sizeT x ≤ 4096) :
  Calls Try.prog 13 #[.agg (sgC k f t r x.hd (.slice a1 m1 c1) (.slice a2 m2 c2) n)] w (WholePost k f t r x n w) := by
 obtain ⟨q0,q8,q16⟩ := marks2 k h1 h2
 have HRep := hid hrep
 have HF := hid hf
 have HT := hid ht
 have HR := hid hr
 have HN := hid hn
 have HX := hid hx
 have HG := hid hg
 clear hrep hf ht hr hn hx hg
 obtain ⟨i0,hi,hz0,hz1,hz2⟩ := info_parts infoTm
 have X1 := hid hi
 have X2 := hid hz0
 have X3 := hid hz1
 have X4 := hid hz2
 clear hi hz0 hz1 hz2
 go_enter Try.func13,Try.ntmps13
 go_wp2_with fail
 have HB1 := hid (((Below.refl w.heap.size w).alloc (Nat.le_refl _) (.cells (sgC k f t r x.hd (.slice a1 m1 c1) (.slice a2 m2 c2) n) 33)).alloc (by simp) (.cells zC 31))
 have hX1 : ((w.alloc (.cells (sgC k f t r x.hd (.slice a1 m1 c1) (.slice a2 m2 c2) n) 33)).alloc (.cells zC 31)).heap[w.heap.size]? = some (.cells (sgC k f t r x.hd (.slice a1 m1 c1) (.slice a2 m2 c2) n) 33 (0,0)) := (Below.heap_alloc _ _ _ (by simp)).trans (heap_new w _)
 have hY1 : ((w.alloc (.cells (sgC k f t r x.hd (.slice a1 m1 c1) (.slice a2 m2 c2) n) 33)).alloc (.cells zC 31)).heap[w.heap.size + 1]? = some (.cells zC 31 (0,0)) := heap_new_at (by simp)
 have HX1 := hid hX1
 have HY1 := hid hY1
 clear hX1 hY1
 obtain ⟨B,hB0⟩ : ∃ b,w.heap.size = b := ⟨_,rfl⟩
 have hB1 := HB1.out.size
 rw [hB0] at HB1 HX1 HY1 HRep hB1 ⊢
 have HBw := hid hB0
 clear hB0
 generalize (w.alloc (.cells (sgC k f t r x.hd (.slice a1 m1 c1) (.slice a2 m2 c2) n) 33)).alloc (.cells zC 31) = w1 at *
 refine (fields_any k h1 h2 _).mono ?_
 rintro e w2 ⟨rfl,hb⟩
 have HB2 := hid (HB1.out.trans (hb.mono hB1))
 have hB2 : B ≤ w2.heap.size := Nat.le_trans hB1 hb.size
 have HX2 := hid ((hb.block _ (blk_lt HX1.out)).trans HX1.out)
 have HY2 := hid ((hb.block _ (blk_lt HY1.out)).trans HY1.out)
 clear hb HB1 HX1 HY1
 have k0 := (sg_cells HX2.out).1
 go_wp2_with fail
 refine (int_any k _).mono ?_
 rintro e w3 ⟨rfl,hb⟩
 have HB3 := hid (HB2.out.trans (hb.mono hB2))
 have hB3 : B ≤ w3.heap.size := Nat.le_trans hB2 hb.size
 have HX3 := hid ((hb.block _ (blk_lt HX2.out)).trans HX2.out)
 have HY3 := hid ((hb.block _ (blk_lt HY2.out)).trans HY2.out)
 clear hb HB2 HX2 HY2 k0
 go_upto_region 5 with fail
 have hb4 := (Below.refl w3.heap.size w3).alloc (Nat.le_refl _) (.cells #[.int .i64 1,.int .i64 k,.complex .f64 0 0,.string ⟨#[]⟩,.int .i64 0,.int .u32 0,.int .u64 0,nilV,nilV] 31)
 have HB4 := hid (HB3.out.trans (hb4.mono hB3))
 have HX4 := hid ((hb4.block _ (blk_lt HX3.out)).trans HX3.out)
 have HY4 := hid ((hb4.block _ (blk_lt HY3.out)).trans HY3.out)
 have HP4 := hid (heap_new w3 (.cells #[.int .i64 1,.int .i64 k,.complex .f64 0 0,.string ⟨#[]⟩,.int .i64 0,.int .u32 0,.int .u64 0,nilV,nilV] 31))
 have hS4 : (w3.alloc (.cells #[.int .i64 1,.int .i64 k,.complex .f64 0 0,.string ⟨#[]⟩,.int .i64 0,.int .u32 0,.int .u64 0,nilV,nilV] 31)).heap.size = w3.heap.size + 1 := by simp
 have hBP := blk_lt HY3.out
 obtain ⟨P,hP⟩ : ∃ b,w3.heap.size = b := ⟨_,rfl⟩
 rw [hP] at HP4 hS4 hB3 hBP ⊢
 clear hb4 HX3 HY3 HB3
 generalize w3.alloc (.cells #[.int .i64 1,.int .i64 k,.complex .f64 0 0,.string ⟨#[]⟩,.int .i64 0,.int .u32 0,.int .u64 0,nilV,nilV] 31) = w4 at *
 clear hP
 have HS4 := hid hS4
 clear hS4
 first | apply wp_region_lit | (apply wp_seq_k; intro _ _; apply wp_region_lit)
 refine wpList_load_row rfl 33 (.tmp 1) rfl B rfl 33 (sgC k f t r x.hd (.slice a1 m1 c1) (.slice a2 m2 c2) n) (0,0) _ HX4.out Try.underlying33 rfl infoSg ?_
 have HR4 := hid (heap_new w4 (.cells (sgC 0 I3.zero I3.zero I3.zero {} nilV nilV 0) 33))
 have hb5 := (Below.refl w4.heap.size w4).alloc (Nat.le_refl _) (.cells (sgC 0 I3.zero I3.zero I3.zero {} nilV nilV 0) 33)
 go_wp2_with (refine wpList_store_row rfl 33 (.tmp 6) (.tmp 22) rfl w4.heap.size (sgC k f t r x.hd (.slice a1 m1 c1) (.slice a2 m2 c2) n) rfl rfl 33 (sgC 0 I3.zero I3.zero I3.zero {} nilV nilV 0) HR4.out infoSg rfl (by simp [Array.all,Value.oneCell']) ?_)
 have hR5 := setRow_heap _ w4.heap.size _ (sgC k f t r x.hd (.slice a1 m1 c1) (.slice a2 m2 c2) n) _ _ HR4.out
 have hb5 := hb5.trans ((setRow_turn _ w4.heap.size (sgC k f t r x.hd (.slice a1 m1 c1) (.slice a2 m2 c2) n)).below hb5.size fun i e => by omega)
 have HR5 := hid hR5
 have HB5 := hid (HB4.out.trans (hb5.mono (show B ≤ w4.heap.size by have := HS4.out; omega)))
 have HX5 := hid ((hb5.block _ (blk_lt HX4.out)).trans HX4.out)
 have HY5 := hid ((hb5.block _ (blk_lt HY4.out)).trans HY4.out)
 have HP5 := hid ((hb5.block _ (blk_lt HP4.out)).trans HP4.out)
 clear hR5 hb5 HR4 HB4 HX4 HY4 HP4
 obtain ⟨R,hRR⟩ : ∃ b,w4.heap.size = b := ⟨_,rfl⟩
 rw [hRR] at HS4 HR5 HB5 HX5 HY5 HP5 ⊢
 clear hRR
 generalize (w4.alloc (.cells (sgC 0 I3.zero I3.zero I3.zero {} nilV nilV 0) 33)).setRow R (sgC k f t r x.hd (.slice a1 m1 c1) (.slice a2 m2 c2) n) = w5 at *
 refine (ids_any k h1 h2 R w5 (sg_cells HR5.out).1).mono ?_
 rintro e w6 ⟨ia,ic,rfl,hrow,hb⟩
 have hR5l := blk_lt HR5.out
 have HIds := hid hrow
 have HB6 := hid (HB5.out.trans (hb.mono (show B ≤ w5.heap.size by have := HS4.out; omega)))
 have HX6 := hid ((hb.block _ (blk_lt HX5.out)).trans HX5.out)
 have HY6 := hid ((hb.block _ (blk_lt HY5.out)).trans HY5.out)
 have HP6 := hid ((hb.block _ (blk_lt HP5.out)).trans HP5.out)
 have HR6 := hid ((hb.block _ (blk_lt HR5.out)).trans HR5.out)
 have HR56 := hid hR5l
 clear hrow hb HB5 HX5 HY5 HP5 HR5 hR5l
 have HPR := hid (show P < R by have := HS4.out; omega)
 have hrow0 : w6.ownsRow P 31 9 (.slice (some ⟨P,0,none⟩) 1 1) 1 (cat [#[.int .i64 1,.int .i64 k,.complex .f64 0 0,.string ⟨#[]⟩,.int .i64 0,.int .u32 0,.int .u64 0,nilV,nilV]]) :=
  ⟨rfl,.inr ⟨P,1,_,rfl,Nat.le_refl _,HP6.out,Nat.le_refl _,by decide,rfl,rfl⟩⟩
 have HL0 := hid (show WhL B P R k f t r x.hd (.slice a1 m1 c1) (.slice a2 m2 c2) n 0 (some ⟨P,0,none⟩) 1 [#[.int .i64 1,.int .i64 k,.complex .f64 0 0,.string ⟨#[]⟩,.int .i64 0,.int .u32 0,.int .u64 0,nilV,nilV]] w6 w6 from
  ⟨⟨HR6.out,hrow0,fun b e => by cases e; exact .inl HPR.out,⟨_,_,rfl,rep_int w6 _ k,rfl⟩,Turn.refl _ _,by omega,HPR.out,blk_lt HR6.out⟩,fun e he => by simp at he⟩)
 have hal : (hasK k).all.length ≤ 3 := upto_le (hasK k) 3
 clear hrow0
 go_wp2_with fail
 go_loopw [5,25] (fun t5 t25 wr => ∃ (j : Nat) (a : Option Addr) (c : Nat) (vs : List (Array Value)),j ≤ (hasK k).all.length ∧ t25 = .int .i64 j ∧ t5 = .slice a (intT k :: idTms f t r ((hasK k).all.take j)).length c ∧ WhL B P R k f t r x.hd (.slice a1 m1 c1) (.slice a2 m2 c2) n j a c vs w6 wr) (fun _ t25 _ => (hasK k).all.length - (intOf t25).toNat)
 case atStart => exact ⟨0,some ⟨P,0,none⟩,1,_,by omega,rfl,rfl,HL0.out⟩
 case round =>
  obtain ⟨j,a,c,vs,hj,rfl,rfl,hL⟩ := hrel
  have HL := hid hL
  clear hL HL0
  by_cases hlt : j < (hasK k).all.length
  ·obtain ⟨g,rfl,hg,kc0,kc1⟩ := ids_cell HIds.out hlt
   have hgl := cell_lt kc0
   have hgk : wr.heap[g]? = w6.heap[g]? := HL.out.at'.turn.block g hgl (fun e => by have := HR56.out; omega)
   rw [← World.cell?_of_block (w := w6) (w' := wr) hgk] at kc0 kc1
   have hgr : g < wr.heap.size := Nat.lt_of_lt_of_le hgl HL.out.at'.size
   have hji : (j : Int) < ((hasK k).all.length : Int) := by omega
   have hji0 : (0 : Int) ≤ (j : Int) := by omega
   obtain ⟨l0,l1,l2,l3,l4,l5,l6,l7,l8,l9,_⟩ := sg_cells HL.out.at'.rb
   have hfr := fresh (hasK k) j hlt
   have HNext := hid (fun o kd (h1 : (hasK k).all[j].1 = o) (h2 : (hasK k).all[j].2 = kd) => take_next hlt h1 h2)
   have HIdB := hid (fun (hb : (idAt f t r (hasK k).all[j].1).ok = false) => ids_bad (k := k) (f := f) (t := t) (r := r) hlt hb)
   rcases hfr with ⟨ho,hk,hz⟩ | ⟨ho,hk,hz⟩ | ⟨ho,hk,hz⟩
   all_goals
    rw [ho] at kc0
    rw [hk] at kc1
    have HTk := hid (HNext.out _ _ ho hk)
    rw [ho] at HIdB
    clear HNext
   ·rw [zz_fresh f hz] at l1 l2 l3
    go_upto_region 9 with fail
    have HA9 := hid (HL.out.at'.alloc (.cells #[.pointer (some ⟨R,1,none⟩),.int .i64 5] tPair))
    have HD9 := hid (heap_new wr (.cells #[.pointer (some ⟨R,1,none⟩),.int .i64 5] tPair))
    have hd0 : (wr.alloc (.cells #[.pointer (some ⟨R,1,none⟩),.int .i64 5] tPair)).cell? ⟨wr.heap.size,0,none⟩ = some (.pointer (some ⟨R,1,none⟩)) := by rw [cell_of_row _ _ _ _ _ _ HD9.out]; rfl
    have hd1 : (wr.alloc (.cells #[.pointer (some ⟨R,1,none⟩),.int .i64 5] tPair)).cell? ⟨wr.heap.size,1,none⟩ = some (.int .i64 5) := by rw [cell_of_row _ _ _ _ _ _ HD9.out]; rfl
    obtain ⟨b0,b1,b2,b3,b4,b5,b6,b7,b8,b9,_⟩ := sg_cells HA9.out.rb
    rw [zz_fresh f hz] at b1 b2 b3
    have HGk : Hid ((wr.alloc (.cells #[.pointer (some ⟨R,1,none⟩),.int .i64 5] tPair)).heap[g]? = w6.heap[g]?) := (Below.heap_alloc _ _ _ hgr).trans hgk
    generalize wr.alloc (.cells #[.pointer (some ⟨R,1,none⟩),.int .i64 5] tPair) = w9 at *
    have hk9 : ∀ b o v,w9.cell? ⟨b,o,none⟩ = some v → (w9.alloc (.cells #[.int .i64 0,.int .i64 0,.complex .f64 0 0,.string ⟨#[]⟩,.int .i64 0,.int .u32 0,.int .u64 0,nilV,nilV] 31)).cell? ⟨b,o,none⟩ = some v := fun b o v h => (World.cell?_of_block (w := w9) (Below.heap_alloc _ _ _ (cell_lt h))).trans h
    have y0 := hk9 _ _ _ hd0
    have y1 := hk9 _ _ _ hd1
    have y2 := hk9 _ _ _ b1
    have y3 := hk9 _ _ _ b2
    have y4 := hk9 _ _ _ b3
    clear hk9
    go_region
    have HA10 := hid (HA9.out.alloc (.cells #[.int .i64 5,.int .i64 0,.complex .f64 0 0,.string ⟨#[]⟩,.int .i64 f.a,.int .u32 f.b,.int .u64 f.c,nilV,nilV] 31)).drew
    have hd0 : (w9.alloc (.cells #[.int .i64 5,.int .i64 0,.complex .f64 0 0,.string ⟨#[]⟩,.int .i64 f.a,.int .u32 f.b,.int .u64 f.c,nilV,nilV] 31)).drew.cell? ⟨wr.heap.size,0,none⟩ = some (.pointer (some ⟨R,1,none⟩)) := (World.cell?_of_block (w := w9) (Below.heap_alloc _ _ _ (cell_lt hd0))).trans hd0
    have hn9 : (w9.alloc (.cells #[.int .i64 5,.int .i64 0,.complex .f64 0 0,.string ⟨#[]⟩,.int .i64 f.a,.int .u32 f.b,.int .u64 f.c,nilV,nilV] 31)).drew.heap[w9.heap.size]? = some (.cells #[.int .i64 5,.int .i64 0,.complex .f64 0 0,.string ⟨#[]⟩,.int .i64 f.a,.int .u32 f.b,.int .u64 f.c,nilV,nilV] 31 (0,0)) := heap_new w9 _
    have HN9 := hid hn9
    have hl9 := cell_lt hd0
    clear hd1 b0 b1 b2 b3 b4 b5 b6 b7 b8 b9 HA9 HD9 HGk y0 y1 y2 y3 y4 hn9
    generalize (w9.alloc (.cells #[.int .i64 5,.int .i64 0,.complex .f64 0 0,.string ⟨#[]⟩,.int .i64 f.a,.int .u32 f.b,.int .u64 f.c,nilV,nilV] 31)).drew = w10 at *
    generalize w9.heap.size = N9 at *
    obtain ⟨z0,z1,z2,z3,z4,z5,z6,z7,z8⟩ := NineAt.of_block HN9.out
    have HCk := hid (check_id 5 f.a f.b f.c (by decide))
    cases hok : f.ok
    ·rw [show idOk f.a f.b f.c = false from hok] at HCk
     have HNo := hid (whole_ids (x := x) (n := n) (HIdB.out hok))
     go_wp2_with fail
     refine (HCk.out _).mono ?_
     rintro e w11 ⟨rfl,hb⟩
     have HA11 := hid (HA10.out.call hb)
     have HY11 := hid ((HA11.out.old hBP).trans HY6.out)
     have HE := hid (HA11.out.end' (cs := zC) HB6.out (Nat.le_succ B) HY11.out)
     clear hb hd0 z0 z1 z2 z3 z4 z5 z6 z7 z8
     go_wp2_with (refine wpList_store_row rfl 31 (.tmp 2) (.tmp 39) rfl (B + 1) zC rfl rfl 31 zC HY11.out infoT9 rfl (by simp [Array.all,Value.oneCell']) ?_)
     obtain ⟨z0,z1,z2,z3,z4,z5,z6,z7,z8⟩ := NineAt.of_block HE.out.1
     exact bodyPost_ret (v := .tuple #[.agg zC,.bool false]) (by simp [results,Try.results13,go_sem,z0,z1,z2,z3,z4,z5,z6,z7,z8]) rfl ⟨zC,by rw [HNo.out],⟨{},none,0,0,none,0,0,rfl⟩,HBw.out ▸ HE.out.2,fun h => by rw [HNo.out] at h; cases h⟩
    ·rw [show idOk f.a f.b f.c = true from hok] at HCk
     have HOk := hid hok
     go_wp2_with fail
     refine (HCk.out _).mono ?_
     rintro e w11 ⟨rfl,hb⟩
     have HA11 := hid (HA10.out.call hb)
     have hd11 := (hb.cell (p := ⟨wr.heap.size,0,none⟩) hl9).trans hd0
     have HD11 := hid hd11
     clear z0 z1 z2 z3 z4 z5 z6 z7 z8
     obtain ⟨z0,z1,z2,z3,z4,z5,z6,z7,z8⟩ := NineAt.of_block ((hb.block _ (blk_lt HN9.out)).trans HN9.out)
     clear hb hd0 HA10 HN9 hd11
     go_upto_region 12 with fail
     have HR12 := hid (row_same (w' := w11.alloc (.cells #[.int .i64 5,.int .i64 0,.complex .f64 0 0,.string ⟨#[]⟩,.int .i64 f.a,.int .u32 f.b,.int .u64 f.c,nilV,nilV] 31)) HA11.out.row (fun b _ hb => Below.heap_alloc _ _ b hb))
     have HS12 := hid (show Src Try.prog 9 29 (.slice (some ⟨w11.heap.size,0,none⟩) 1 1) 1 (#[.int .i64 5,.int .i64 0,.complex .f64 0 0,.string ⟨#[]⟩,.int .i64 f.a,.int .u32 f.b,.int .u64 f.c,nilV,nilV] : Array Value).toList (w11.alloc (.cells #[.int .i64 5,.int .i64 0,.complex .f64 0 0,.string ⟨#[]⟩,.int .i64 f.a,.int .u32 f.b,.int .u64 f.c,nilV,nilV] 31)) from
      Src.ofSlice _ Try.underlying29 _ _ _ _ rfl (World.news_of_block (heap_alloc_new w11 _)) (nine_one 5 0 0 0 _ f.a f.b f.c none 0 0 none 0 0))
     have hpl : (intT k :: idTms f t r ((hasK k).all.take j)).length ≤ 4 := by simp [idTms]; omega
     have HM1 := hid (show (intT k :: idTms f t r ((hasK k).all.take j)).length + 1 ≤ maxLen by unfold maxLen; omega)
     have HM2 := hid (show ((intT k :: idTms f t r ((hasK k).all.take j)).length + 1) * 120 ≤ 140737488355328 by omega)
     have HM3 := hid (show P ≤ (w11.alloc (.cells #[.int .i64 5,.int .i64 0,.complex .f64 0 0,.string ⟨#[]⟩,.int .i64 f.a,.int .u32 f.b,.int .u64 f.c,nilV,nilV] 31)).heap.size by have := HA11.out.size; have := HA11.out.r0; have := HPR.out; simp; omega)
     clear hpl
     go_upto_region 13 with (at_builtin; refine wpList_app _ rfl (.tmp 40) (.tmp 42) 29 29 rfl P 31 i0 (.agg zC) 9 120 Try.underlying29 X1.out X2.out X3.out X4.out rfl (by decide) _ (intT k :: idTms f t r ((hasK k).all.take j)).length (cat vs) rfl HR12.out _ 1 (#[.int .i64 5,.int .i64 0,.complex .f64 0 0,.string ⟨#[]⟩,.int .i64 f.a,.int .u32 f.b,.int .u64 f.c,nilV,nilV] : Array Value).toList rfl HS12.out HM1.out HM2.out HM3.out ?_; intro a4 c4 w4 ho4 hg4 _ hl4; have HO4 := hid ho4; have HG4 := hid hg4; have HL4 := hid hl4; clear ho4 hg4 hl4)
     have hx := WhL.next1 HL.out HA11.out HTk.out HOk.out HG4.out HO4.out HL4.out
     have HA13 := hid hx.1
     have HW13 := hid hx.2.1
     have HLn := hid hx.2.2
     have hdd : w4.cell? ⟨wr.heap.size,0,none⟩ = some (.pointer (some ⟨R,1,none⟩)) := by
      have hlw := cell_lt HD11.out
      rw [← HD11.out]
      refine (World.cell?_of_block (w := w11.alloc (.cells #[.int .i64 5,.int .i64 0,.complex .f64 0 0,.string ⟨#[]⟩,.int .i64 f.a,.int .u32 f.b,.int .u64 f.c,nilV,nilV] 31)) ((Turn.of_grownBy HG4.out).block wr.heap.size (by simp; omega) (fun e => by have := (HL.out.at'.row.lt wr.heap.size e).2; omega))).trans ?_
      exact World.cell?_of_block (w := w11) (Below.heap_alloc _ _ _ hlw)
     obtain ⟨b0,b1,b2,b3,b4,b5,b6,b7,b8,b9,_⟩ := sg_cells HA13.out.rb
     have hfz := fz_of HA13.out.rb
     clear hx z0 z1 z2 z3 z4 z5 z6 z7 z8 HO4 HG4 HL4 HR12 HS12 HM1 HM2 HM3 HA11 HD11
     go_wp2_with fail
     go_round
     case rel => exact ⟨j + 1,a4,c4,_,by omega,by go_num,by rw [← HLn.out]; rfl,HW13.out⟩
     case measure => simp [intOf]; omega
   ·rw [zz_fresh t hz] at l4 l5 l6
    go_upto_region 9 with fail
    have HA9 := hid (HL.out.at'.alloc (.cells #[.pointer (some ⟨R,4,none⟩),.int .i64 5] tPair))
    have HD9 := hid (heap_new wr (.cells #[.pointer (some ⟨R,4,none⟩),.int .i64 5] tPair))
    have hd0 : (wr.alloc (.cells #[.pointer (some ⟨R,4,none⟩),.int .i64 5] tPair)).cell? ⟨wr.heap.size,0,none⟩ = some (.pointer (some ⟨R,4,none⟩)) := by rw [cell_of_row _ _ _ _ _ _ HD9.out]; rfl
    have hd1 : (wr.alloc (.cells #[.pointer (some ⟨R,4,none⟩),.int .i64 5] tPair)).cell? ⟨wr.heap.size,1,none⟩ = some (.int .i64 5) := by rw [cell_of_row _ _ _ _ _ _ HD9.out]; rfl
    obtain ⟨b0,b1,b2,b3,b4,b5,b6,b7,b8,b9,_⟩ := sg_cells HA9.out.rb
    rw [zz_fresh t hz] at b4 b5 b6
    have HGk : Hid ((wr.alloc (.cells #[.pointer (some ⟨R,4,none⟩),.int .i64 5] tPair)).heap[g]? = w6.heap[g]?) := (Below.heap_alloc _ _ _ hgr).trans hgk
    generalize wr.alloc (.cells #[.pointer (some ⟨R,4,none⟩),.int .i64 5] tPair) = w9 at *
    have hk9 : ∀ b o v,w9.cell? ⟨b,o,none⟩ = some v → (w9.alloc (.cells #[.int .i64 0,.int .i64 0,.complex .f64 0 0,.string ⟨#[]⟩,.int .i64 0,.int .u32 0,.int .u64 0,nilV,nilV] 31)).cell? ⟨b,o,none⟩ = some v := fun b o v h => (World.cell?_of_block (w := w9) (Below.heap_alloc _ _ _ (cell_lt h))).trans h
    have y0 := hk9 _ _ _ hd0
    have y1 := hk9 _ _ _ hd1
    have y2 := hk9 _ _ _ b4
    have y3 := hk9 _ _ _ b5
    have y4 := hk9 _ _ _ b6
    clear hk9
    go_region
    have HA10 := hid (HA9.out.alloc (.cells #[.int .i64 5,.int .i64 0,.complex .f64 0 0,.string ⟨#[]⟩,.int .i64 t.a,.int .u32 t.b,.int .u64 t.c,nilV,nilV] 31)).drew
    have hd0 : (w9.alloc (.cells #[.int .i64 5,.int .i64 0,.complex .f64 0 0,.string ⟨#[]⟩,.int .i64 t.a,.int .u32 t.b,.int .u64 t.c,nilV,nilV] 31)).drew.cell? ⟨wr.heap.size,0,none⟩ = some (.pointer (some ⟨R,4,none⟩)) := (World.cell?_of_block (w := w9) (Below.heap_alloc _ _ _ (cell_lt hd0))).trans hd0
    have hn9 : (w9.alloc (.cells #[.int .i64 5,.int .i64 0,.complex .f64 0 0,.string ⟨#[]⟩,.int .i64 t.a,.int .u32 t.b,.int .u64 t.c,nilV,nilV] 31)).drew.heap[w9.heap.size]? = some (.cells #[.int .i64 5,.int .i64 0,.complex .f64 0 0,.string ⟨#[]⟩,.int .i64 t.a,.int .u32 t.b,.int .u64 t.c,nilV,nilV] 31 (0,0)) := heap_new w9 _
    have HN9 := hid hn9
    have hl9 := cell_lt hd0
    clear hd1 b0 b1 b2 b3 b4 b5 b6 b7 b8 b9 HA9 HD9 HGk y0 y1 y2 y3 y4 hn9
    generalize (w9.alloc (.cells #[.int .i64 5,.int .i64 0,.complex .f64 0 0,.string ⟨#[]⟩,.int .i64 t.a,.int .u32 t.b,.int .u64 t.c,nilV,nilV] 31)).drew = w10 at *
    generalize w9.heap.size = N9 at *
    obtain ⟨z0,z1,z2,z3,z4,z5,z6,z7,z8⟩ := NineAt.of_block HN9.out
    have HCk := hid (check_id 5 t.a t.b t.c (by decide))
    cases hok : t.ok
    ·rw [show idOk t.a t.b t.c = false from hok] at HCk
     have HNo := hid (whole_ids (x := x) (n := n) (HIdB.out hok))
     go_wp2_with fail
     refine (HCk.out _).mono ?_
     rintro e w11 ⟨rfl,hb⟩
     have HA11 := hid (HA10.out.call hb)
     have HY11 := hid ((HA11.out.old hBP).trans HY6.out)
     have HE := hid (HA11.out.end' (cs := zC) HB6.out (Nat.le_succ B) HY11.out)
     clear hb hd0 z0 z1 z2 z3 z4 z5 z6 z7 z8
     go_wp2_with (refine wpList_store_row rfl 31 (.tmp 2) (.tmp 39) rfl (B + 1) zC rfl rfl 31 zC HY11.out infoT9 rfl (by simp [Array.all,Value.oneCell']) ?_)
     obtain ⟨z0,z1,z2,z3,z4,z5,z6,z7,z8⟩ := NineAt.of_block HE.out.1
     exact bodyPost_ret (v := .tuple #[.agg zC,.bool false]) (by simp [results,Try.results13,go_sem,z0,z1,z2,z3,z4,z5,z6,z7,z8]) rfl ⟨zC,by rw [HNo.out],⟨{},none,0,0,none,0,0,rfl⟩,HBw.out ▸ HE.out.2,fun h => by rw [HNo.out] at h; cases h⟩
    ·rw [show idOk t.a t.b t.c = true from hok] at HCk
     have HOk := hid hok
     go_wp2_with fail
     refine (HCk.out _).mono ?_
     rintro e w11 ⟨rfl,hb⟩
     have HA11 := hid (HA10.out.call hb)
     have hd11 := (hb.cell (p := ⟨wr.heap.size,0,none⟩) hl9).trans hd0
     have HD11 := hid hd11
     clear z0 z1 z2 z3 z4 z5 z6 z7 z8
     obtain ⟨z0,z1,z2,z3,z4,z5,z6,z7,z8⟩ := NineAt.of_block ((hb.block _ (blk_lt HN9.out)).trans HN9.out)
     clear hb hd0 HA10 HN9 hd11
     go_upto_region 12 with fail
     have HR12 := hid (row_same (w' := w11.alloc (.cells #[.int .i64 5,.int .i64 0,.complex .f64 0 0,.string ⟨#[]⟩,.int .i64 t.a,.int .u32 t.b,.int .u64 t.c,nilV,nilV] 31)) HA11.out.row (fun b _ hb => Below.heap_alloc _ _ b hb))
     have HS12 := hid (show Src Try.prog 9 29 (.slice (some ⟨w11.heap.size,0,none⟩) 1 1) 1 (#[.int .i64 5,.int .i64 0,.complex .f64 0 0,.string ⟨#[]⟩,.int .i64 t.a,.int .u32 t.b,.int .u64 t.c,nilV,nilV] : Array Value).toList (w11.alloc (.cells #[.int .i64 5,.int .i64 0,.complex .f64 0 0,.string ⟨#[]⟩,.int .i64 t.a,.int .u32 t.b,.int .u64 t.c,nilV,nilV] 31)) from
      Src.ofSlice _ Try.underlying29 _ _ _ _ rfl (World.news_of_block (heap_alloc_new w11 _)) (nine_one 5 0 0 0 _ t.a t.b t.c none 0 0 none 0 0))
     have hpl : (intT k :: idTms f t r ((hasK k).all.take j)).length ≤ 4 := by simp [idTms]; omega
     have HM1 := hid (show (intT k :: idTms f t r ((hasK k).all.take j)).length + 1 ≤ maxLen by unfold maxLen; omega)
     have HM2 := hid (show ((intT k :: idTms f t r ((hasK k).all.take j)).length + 1) * 120 ≤ 140737488355328 by omega)
     have HM3 := hid (show P ≤ (w11.alloc (.cells #[.int .i64 5,.int .i64 0,.complex .f64 0 0,.string ⟨#[]⟩,.int .i64 t.a,.int .u32 t.b,.int .u64 t.c,nilV,nilV] 31)).heap.size by have := HA11.out.size; have := HA11.out.r0; have := HPR.out; simp; omega)
     clear hpl
     go_upto_region 13 with (at_builtin; refine wpList_app _ rfl (.tmp 40) (.tmp 42) 29 29 rfl P 31 i0 (.agg zC) 9 120 Try.underlying29 X1.out X2.out X3.out X4.out rfl (by decide) _ (intT k :: idTms f t r ((hasK k).all.take j)).length (cat vs) rfl HR12.out _ 1 (#[.int .i64 5,.int .i64 0,.complex .f64 0 0,.string ⟨#[]⟩,.int .i64 t.a,.int .u32 t.b,.int .u64 t.c,nilV,nilV] : Array Value).toList rfl HS12.out HM1.out HM2.out HM3.out ?_; intro a4 c4 w4 ho4 hg4 _ hl4; have HO4 := hid ho4; have HG4 := hid hg4; have HL4 := hid hl4; clear ho4 hg4 hl4)
     have hx := WhL.next4 HL.out HA11.out HTk.out HOk.out HG4.out HO4.out HL4.out
     have HA13 := hid hx.1
     have HW13 := hid hx.2.1
     have HLn := hid hx.2.2
     have hdd : w4.cell? ⟨wr.heap.size,0,none⟩ = some (.pointer (some ⟨R,4,none⟩)) := by
      have hlw := cell_lt HD11.out
      rw [← HD11.out]
      refine (World.cell?_of_block (w := w11.alloc (.cells #[.int .i64 5,.int .i64 0,.complex .f64 0 0,.string ⟨#[]⟩,.int .i64 t.a,.int .u32 t.b,.int .u64 t.c,nilV,nilV] 31)) ((Turn.of_grownBy HG4.out).block wr.heap.size (by simp; omega) (fun e => by have := (HL.out.at'.row.lt wr.heap.size e).2; omega))).trans ?_
      exact World.cell?_of_block (w := w11) (Below.heap_alloc _ _ _ hlw)
     obtain ⟨b0,b1,b2,b3,b4,b5,b6,b7,b8,b9,_⟩ := sg_cells HA13.out.rb
     have hfz := fz_of HA13.out.rb
     clear hx z0 z1 z2 z3 z4 z5 z6 z7 z8 HO4 HG4 HL4 HR12 HS12 HM1 HM2 HM3 HA11 HD11
     go_wp2_with fail
     go_round
     case rel => exact ⟨j + 1,a4,c4,_,by omega,by go_num,by rw [← HLn.out]; rfl,HW13.out⟩
     case measure => simp [intOf]; omega
   ·rw [zz_fresh r hz] at l7 l8 l9
    go_upto_region 9 with fail
    have HA9 := hid (HL.out.at'.alloc (.cells #[.pointer (some ⟨R,7,none⟩),.int .i64 4] tPair))
    have HD9 := hid (heap_new wr (.cells #[.pointer (some ⟨R,7,none⟩),.int .i64 4] tPair))
    have hd0 : (wr.alloc (.cells #[.pointer (some ⟨R,7,none⟩),.int .i64 4] tPair)).cell? ⟨wr.heap.size,0,none⟩ = some (.pointer (some ⟨R,7,none⟩)) := by rw [cell_of_row _ _ _ _ _ _ HD9.out]; rfl
    have hd1 : (wr.alloc (.cells #[.pointer (some ⟨R,7,none⟩),.int .i64 4] tPair)).cell? ⟨wr.heap.size,1,none⟩ = some (.int .i64 4) := by rw [cell_of_row _ _ _ _ _ _ HD9.out]; rfl
    obtain ⟨b0,b1,b2,b3,b4,b5,b6,b7,b8,b9,_⟩ := sg_cells HA9.out.rb
    rw [zz_fresh r hz] at b7 b8 b9
    have HGk : Hid ((wr.alloc (.cells #[.pointer (some ⟨R,7,none⟩),.int .i64 4] tPair)).heap[g]? = w6.heap[g]?) := (Below.heap_alloc _ _ _ hgr).trans hgk
    generalize wr.alloc (.cells #[.pointer (some ⟨R,7,none⟩),.int .i64 4] tPair) = w9 at *
    have hk9 : ∀ b o v,w9.cell? ⟨b,o,none⟩ = some v → (w9.alloc (.cells #[.int .i64 0,.int .i64 0,.complex .f64 0 0,.string ⟨#[]⟩,.int .i64 0,.int .u32 0,.int .u64 0,nilV,nilV] 31)).cell? ⟨b,o,none⟩ = some v := fun b o v h => (World.cell?_of_block (w := w9) (Below.heap_alloc _ _ _ (cell_lt h))).trans h
    have y0 := hk9 _ _ _ hd0
    have y1 := hk9 _ _ _ hd1
    have y2 := hk9 _ _ _ b7
    have y3 := hk9 _ _ _ b8
    have y4 := hk9 _ _ _ b9
    clear hk9
    go_region
    have HA10 := hid (HA9.out.alloc (.cells #[.int .i64 4,.int .i64 0,.complex .f64 0 0,.string ⟨#[]⟩,.int .i64 r.a,.int .u32 r.b,.int .u64 r.c,nilV,nilV] 31)).drew
    have hd0 : (w9.alloc (.cells #[.int .i64 4,.int .i64 0,.complex .f64 0 0,.string ⟨#[]⟩,.int .i64 r.a,.int .u32 r.b,.int .u64 r.c,nilV,nilV] 31)).drew.cell? ⟨wr.heap.size,0,none⟩ = some (.pointer (some ⟨R,7,none⟩)) := (World.cell?_of_block (w := w9) (Below.heap_alloc _ _ _ (cell_lt hd0))).trans hd0
    have hn9 : (w9.alloc (.cells #[.int .i64 4,.int .i64 0,.complex .f64 0 0,.string ⟨#[]⟩,.int .i64 r.a,.int .u32 r.b,.int .u64 r.c,nilV,nilV] 31)).drew.heap[w9.heap.size]? = some (.cells #[.int .i64 4,.int .i64 0,.complex .f64 0 0,.string ⟨#[]⟩,.int .i64 r.a,.int .u32 r.b,.int .u64 r.c,nilV,nilV] 31 (0,0)) := heap_new w9 _
    have HN9 := hid hn9
    have hl9 := cell_lt hd0
    clear hd1 b0 b1 b2 b3 b4 b5 b6 b7 b8 b9 HA9 HD9 HGk y0 y1 y2 y3 y4 hn9
    generalize (w9.alloc (.cells #[.int .i64 4,.int .i64 0,.complex .f64 0 0,.string ⟨#[]⟩,.int .i64 r.a,.int .u32 r.b,.int .u64 r.c,nilV,nilV] 31)).drew = w10 at *
    generalize w9.heap.size = N9 at *
    obtain ⟨z0,z1,z2,z3,z4,z5,z6,z7,z8⟩ := NineAt.of_block HN9.out
    have HCk := hid (check_id 4 r.a r.b r.c (by decide))
    cases hok : r.ok
    ·rw [show idOk r.a r.b r.c = false from hok] at HCk
     have HNo := hid (whole_ids (x := x) (n := n) (HIdB.out hok))
     go_wp2_with fail
     refine (HCk.out _).mono ?_
     rintro e w11 ⟨rfl,hb⟩
     have HA11 := hid (HA10.out.call hb)
     have HY11 := hid ((HA11.out.old hBP).trans HY6.out)
     have HE := hid (HA11.out.end' (cs := zC) HB6.out (Nat.le_succ B) HY11.out)
     clear hb hd0 z0 z1 z2 z3 z4 z5 z6 z7 z8
     go_wp2_with (refine wpList_store_row rfl 31 (.tmp 2) (.tmp 39) rfl (B + 1) zC rfl rfl 31 zC HY11.out infoT9 rfl (by simp [Array.all,Value.oneCell']) ?_)
     obtain ⟨z0,z1,z2,z3,z4,z5,z6,z7,z8⟩ := NineAt.of_block HE.out.1
     exact bodyPost_ret (v := .tuple #[.agg zC,.bool false]) (by simp [results,Try.results13,go_sem,z0,z1,z2,z3,z4,z5,z6,z7,z8]) rfl ⟨zC,by rw [HNo.out],⟨{},none,0,0,none,0,0,rfl⟩,HBw.out ▸ HE.out.2,fun h => by rw [HNo.out] at h; cases h⟩
    ·rw [show idOk r.a r.b r.c = true from hok] at HCk
     have HOk := hid hok
     go_wp2_with fail
     refine (HCk.out _).mono ?_
     rintro e w11 ⟨rfl,hb⟩
     have HA11 := hid (HA10.out.call hb)
     have hd11 := (hb.cell (p := ⟨wr.heap.size,0,none⟩) hl9).trans hd0
     have HD11 := hid hd11
     clear z0 z1 z2 z3 z4 z5 z6 z7 z8
     obtain ⟨z0,z1,z2,z3,z4,z5,z6,z7,z8⟩ := NineAt.of_block ((hb.block _ (blk_lt HN9.out)).trans HN9.out)
     clear hb hd0 HA10 HN9 hd11
     go_upto_region 12 with fail
     have HR12 := hid (row_same (w' := w11.alloc (.cells #[.int .i64 4,.int .i64 0,.complex .f64 0 0,.string ⟨#[]⟩,.int .i64 r.a,.int .u32 r.b,.int .u64 r.c,nilV,nilV] 31)) HA11.out.row (fun b _ hb => Below.heap_alloc _ _ b hb))
     have HS12 := hid (show Src Try.prog 9 29 (.slice (some ⟨w11.heap.size,0,none⟩) 1 1) 1 (#[.int .i64 4,.int .i64 0,.complex .f64 0 0,.string ⟨#[]⟩,.int .i64 r.a,.int .u32 r.b,.int .u64 r.c,nilV,nilV] : Array Value).toList (w11.alloc (.cells #[.int .i64 4,.int .i64 0,.complex .f64 0 0,.string ⟨#[]⟩,.int .i64 r.a,.int .u32 r.b,.int .u64 r.c,nilV,nilV] 31)) from
      Src.ofSlice _ Try.underlying29 _ _ _ _ rfl (World.news_of_block (heap_alloc_new w11 _)) (nine_one 4 0 0 0 _ r.a r.b r.c none 0 0 none 0 0))
     have hpl : (intT k :: idTms f t r ((hasK k).all.take j)).length ≤ 4 := by simp [idTms]; omega
     have HM1 := hid (show (intT k :: idTms f t r ((hasK k).all.take j)).length + 1 ≤ maxLen by unfold maxLen; omega)
     have HM2 := hid (show ((intT k :: idTms f t r ((hasK k).all.take j)).length + 1) * 120 ≤ 140737488355328 by omega)
     have HM3 := hid (show P ≤ (w11.alloc (.cells #[.int .i64 4,.int .i64 0,.complex .f64 0 0,.string ⟨#[]⟩,.int .i64 r.a,.int .u32 r.b,.int .u64 r.c,nilV,nilV] 31)).heap.size by have := HA11.out.size; have := HA11.out.r0; have := HPR.out; simp; omega)
     clear hpl
     go_upto_region 13 with (at_builtin; refine wpList_app _ rfl (.tmp 40) (.tmp 42) 29 29 rfl P 31 i0 (.agg zC) 9 120 Try.underlying29 X1.out X2.out X3.out X4.out rfl (by decide) _ (intT k :: idTms f t r ((hasK k).all.take j)).length (cat vs) rfl HR12.out _ 1 (#[.int .i64 4,.int .i64 0,.complex .f64 0 0,.string ⟨#[]⟩,.int .i64 r.a,.int .u32 r.b,.int .u64 r.c,nilV,nilV] : Array Value).toList rfl HS12.out HM1.out HM2.out HM3.out ?_; intro a4 c4 w4 ho4 hg4 _ hl4; have HO4 := hid ho4; have HG4 := hid hg4; have HL4 := hid hl4; clear ho4 hg4 hl4)
     have hx := WhL.next7 HL.out HA11.out HTk.out HOk.out HG4.out HO4.out HL4.out
     have HA13 := hid hx.1
     have HW13 := hid hx.2.1
     have HLn := hid hx.2.2
     have hdd : w4.cell? ⟨wr.heap.size,0,none⟩ = some (.pointer (some ⟨R,7,none⟩)) := by
      have hlw := cell_lt HD11.out
      rw [← HD11.out]
      refine (World.cell?_of_block (w := w11.alloc (.cells #[.int .i64 4,.int .i64 0,.complex .f64 0 0,.string ⟨#[]⟩,.int .i64 r.a,.int .u32 r.b,.int .u64 r.c,nilV,nilV] 31)) ((Turn.of_grownBy HG4.out).block wr.heap.size (by simp; omega) (fun e => by have := (HL.out.at'.row.lt wr.heap.size e).2; omega))).trans ?_
      exact World.cell?_of_block (w := w11) (Below.heap_alloc _ _ _ hlw)
     obtain ⟨b0,b1,b2,b3,b4,b5,b6,b7,b8,b9,_⟩ := sg_cells HA13.out.rb
     have hfz := fz_of HA13.out.rb
     clear hx z0 z1 z2 z3 z4 z5 z6 z7 z8 HO4 HG4 HL4 HR12 HS12 HM1 HM2 HM3 HA11 HD11
     go_wp2_with fail
     go_round
     case rel => exact ⟨j + 1,a4,c4,_,by omega,by go_num,by rw [← HLn.out]; rfl,HW13.out⟩
     case measure => simp [intOf]; omega
  ·obtain rfl : j = (hasK k).all.length := by omega
   have hal2 : (hasK k).all.take (hasK k).all.length = (hasK k).all := List.take_length
   have hz := zz_all (hasK k) f t r HF.out HT.out HR.out
   have HIB := hid (show idsB k f t r = true from List.all_eq_true.2 (by have := HL.out.ok; rw [hal2] at this; exact this))
   have hA := HL.out.at'
   rw [hal2] at hA ⊢
   unfold restC at hA
   rw [hz.1,hz.2.1,hz.2.2] at hA
   have HA := hid hA
   have HPl := hid (show (intT k :: idTms f t r (hasK k).all).length ≤ 4 by simp [idTms]; omega)
   have HPdef := hid (show sgParts k f t r x n = ((intT k :: idTms f t r (hasK k).all) ++ if hasN k = true then [intT n] else []) ++ if hasX k = true then [x] else [] from rfl)
   generalize intT k :: idTms f t r (hasK k).all = pl at *
   clear hA hz hal2 HL HF HT HR HIds
   go_upto_if 51 with fail
   go_cut [5] from 49 to 68 (fun t5 wx => ∃ (a : Option Addr) (c : Nat) (vs : List (Array Value)),t5 = .slice a (pl ++ if hasN k = true then [intT n] else []).length c ∧ WhAt B P R (sgC k I3.zero I3.zero I3.zero x.hd (.slice a1 m1 c1) (.slice a2 m2 c2) 0) a c (pl ++ if hasN k = true then [intT n] else []) vs w6 wx ∧ (hasN k = true → n = 1 ∨ n = 2))
   case first =>
    cases hN : hasN k
    ·rw [hN] at q8
     have hn := HN.out hN
     rw [hn] at HA
     go_wp2_with fail
     go_meet
     exact ⟨a,c,vs,by rw [hN]; simp,by rw [hN]; simpa using HA.out,fun h => by rw [hN] at h; cases h⟩
    ·rw [hN] at q8
     have HNk := hid hN
     obtain ⟨k0,k1,k2,k3,k4,k5,k6,k7,k8,k9,k10,k11,k12,k13,k14,k15,k16,k17,k18,k19⟩ := sg_cells ((HA.out.old (by have := hBP; omega)).trans HX6.out)
     by_cases hn1 : n = 1
     ·subst hn1
      have HOkN := hid (show (1 : Int) = 1 ∨ (1 : Int) = 2 from .inl rfl)
      go_wp2_with fail
      refine (int_any 1 _).mono ?_
      rintro e w11 ⟨rfl,hb⟩
      have HA11 := hid (HA.out.call hb)
      clear hb k0 k1 k2 k3 k4 k5 k6 k7 k8 k9 k10 k11 k12 k13 k14 k15 k16 k17 k18 k19
      have HR12 := hid (row_same (w' := w11.alloc (.cells #[.int .i64 1,.int .i64 1,.complex .f64 0 0,.string ⟨#[]⟩,.int .i64 0,.int .u32 0,.int .u64 0,nilV,nilV] 31)) HA11.out.row (fun b _ hb => Below.heap_alloc _ _ b hb))
      have HS12 := hid (show Src Try.prog 9 29 (.slice (some ⟨w11.heap.size,0,none⟩) 1 1) 1 (#[.int .i64 1,.int .i64 1,.complex .f64 0 0,.string ⟨#[]⟩,.int .i64 0,.int .u32 0,.int .u64 0,nilV,nilV] : Array Value).toList (w11.alloc (.cells #[.int .i64 1,.int .i64 1,.complex .f64 0 0,.string ⟨#[]⟩,.int .i64 0,.int .u32 0,.int .u64 0,nilV,nilV] 31)) from
       Src.ofSlice _ Try.underlying29 _ _ _ _ rfl (World.news_of_block (heap_alloc_new w11 _)) (nine_one 1 1 0 0 _ 0 0 0 none 0 0 none 0 0))
      have HM1 := hid (show pl.length + 1 ≤ maxLen by have := HPl.out; unfold maxLen; omega)
      have HM2 := hid (show (pl.length + 1) * 120 ≤ 140737488355328 by have := HPl.out; omega)
      have HM3 := hid (show P ≤ (w11.alloc (.cells #[.int .i64 1,.int .i64 1,.complex .f64 0 0,.string ⟨#[]⟩,.int .i64 0,.int .u32 0,.int .u64 0,nilV,nilV] 31)).heap.size by have := HA11.out.size; have := HA11.out.r0; have := HPR.out; simp; omega)
      go_upto_region 19 with (at_builtin; refine wpList_app _ rfl (.tmp 61) (.tmp 66) 29 29 rfl P 31 i0 (.agg zC) 9 120 Try.underlying29 X1.out X2.out X3.out X4.out rfl (by decide) _ pl.length (cat vs) rfl HR12.out _ 1 (#[.int .i64 1,.int .i64 1,.complex .f64 0 0,.string ⟨#[]⟩,.int .i64 0,.int .u32 0,.int .u64 0,nilV,nilV] : Array Value).toList rfl HS12.out HM1.out HM2.out HM3.out ?_; intro a4 c4 w4 ho4 hg4 _ hl4; have HO4 := hid ho4; have HG4 := hid hg4; have HL4 := hid hl4; clear ho4 hg4 hl4)
      have HA12 := hid (HA11.out.next (rep_int w11 _ 1) HG4.out HO4.out HL4.out)
      obtain ⟨b0,b1,b2,b3,b4,b5,b6,b7,b8,b9,b10,b11,b12,b13,b14,b15,b16,b17,b18,b19⟩ := sg_cells HA12.out.rb
      have hfz := fz_of HA12.out.rb
      have HA13 := hid (HA12.out.set1 (o := 19) (u := .int .u64 0) (rc' := sgC k I3.zero I3.zero I3.zero x.hd (.slice a1 m1 c1) (.slice a2 m2 c2) 0) (sg_set19 _ _ _ _ _ _ _ _))
      clear HR12 HS12 HM1 HM2 HM3 HO4 HG4 HL4 HA11 HA12 b0 b1 b2 b3 b4 b5 b6 b7 b8 b9 b10 b11 b12 b13 b14 b15 b16 b17 b18
      go_wp2_with fail
      go_meet
      exact ⟨a4,c4,_,by rw [HNk.out]; simp,by rw [HNk.out]; simpa using HA13.out,fun _ => HOkN.out⟩
     by_cases hn2 : n = 2
     ·subst hn2
      have HOkN := hid (show (2 : Int) = 1 ∨ (2 : Int) = 2 from .inr rfl)
      go_wp2_with fail
      refine (int_any 2 _).mono ?_
      rintro e w11 ⟨rfl,hb⟩
      have HA11 := hid (HA.out.call hb)
      clear hb k0 k1 k2 k3 k4 k5 k6 k7 k8 k9 k10 k11 k12 k13 k14 k15 k16 k17 k18 k19
      have HR12 := hid (row_same (w' := w11.alloc (.cells #[.int .i64 1,.int .i64 2,.complex .f64 0 0,.string ⟨#[]⟩,.int .i64 0,.int .u32 0,.int .u64 0,nilV,nilV] 31)) HA11.out.row (fun b _ hb => Below.heap_alloc _ _ b hb))
      have HS12 := hid (show Src Try.prog 9 29 (.slice (some ⟨w11.heap.size,0,none⟩) 1 1) 1 (#[.int .i64 1,.int .i64 2,.complex .f64 0 0,.string ⟨#[]⟩,.int .i64 0,.int .u32 0,.int .u64 0,nilV,nilV] : Array Value).toList (w11.alloc (.cells #[.int .i64 1,.int .i64 2,.complex .f64 0 0,.string ⟨#[]⟩,.int .i64 0,.int .u32 0,.int .u64 0,nilV,nilV] 31)) from
       Src.ofSlice _ Try.underlying29 _ _ _ _ rfl (World.news_of_block (heap_alloc_new w11 _)) (nine_one 1 2 0 0 _ 0 0 0 none 0 0 none 0 0))
      have HM1 := hid (show pl.length + 1 ≤ maxLen by have := HPl.out; unfold maxLen; omega)
      have HM2 := hid (show (pl.length + 1) * 120 ≤ 140737488355328 by have := HPl.out; omega)
      have HM3 := hid (show P ≤ (w11.alloc (.cells #[.int .i64 1,.int .i64 2,.complex .f64 0 0,.string ⟨#[]⟩,.int .i64 0,.int .u32 0,.int .u64 0,nilV,nilV] 31)).heap.size by have := HA11.out.size; have := HA11.out.r0; have := HPR.out; simp; omega)
      go_upto_region 19 with (at_builtin; refine wpList_app _ rfl (.tmp 61) (.tmp 66) 29 29 rfl P 31 i0 (.agg zC) 9 120 Try.underlying29 X1.out X2.out X3.out X4.out rfl (by decide) _ pl.length (cat vs) rfl HR12.out _ 1 (#[.int .i64 1,.int .i64 2,.complex .f64 0 0,.string ⟨#[]⟩,.int .i64 0,.int .u32 0,.int .u64 0,nilV,nilV] : Array Value).toList rfl HS12.out HM1.out HM2.out HM3.out ?_; intro a4 c4 w4 ho4 hg4 _ hl4; have HO4 := hid ho4; have HG4 := hid hg4; have HL4 := hid hl4; clear ho4 hg4 hl4)
      have HA12 := hid (HA11.out.next (rep_int w11 _ 2) HG4.out HO4.out HL4.out)
      obtain ⟨b0,b1,b2,b3,b4,b5,b6,b7,b8,b9,b10,b11,b12,b13,b14,b15,b16,b17,b18,b19⟩ := sg_cells HA12.out.rb
      have hfz := fz_of HA12.out.rb
      have HA13 := hid (HA12.out.set1 (o := 19) (u := .int .u64 0) (rc' := sgC k I3.zero I3.zero I3.zero x.hd (.slice a1 m1 c1) (.slice a2 m2 c2) 0) (sg_set19 _ _ _ _ _ _ _ _))
      clear HR12 HS12 HM1 HM2 HM3 HO4 HG4 HL4 HA11 HA12 b0 b1 b2 b3 b4 b5 b6 b7 b8 b9 b10 b11 b12 b13 b14 b15 b16 b17 b18
      go_wp2_with fail
      go_meet
      exact ⟨a4,c4,_,by rw [HNk.out]; simp,by rw [HNk.out]; simpa using HA13.out,fun _ => HOkN.out⟩
     ·have HNo := hid (show wholeB k f t r x n = false by simp [wholeB,hN,hn1,hn2])
      have e1 : (n != 1) = true := by rw [bne_iff_ne]; omega
      have e2 : (n != 2) = true := by rw [bne_iff_ne]; omega
      have HY11 := hid ((HA.out.old hBP).trans HY6.out)
      have HE := hid (HA.out.end' (cs := zC) HB6.out (Nat.le_succ B) HY11.out)
      go_wp2_with (refine wpList_store_row rfl 31 (.tmp 2) (.tmp 60) rfl (B + 1) zC rfl rfl 31 zC HY11.out infoT9 rfl (by simp [Array.all,Value.oneCell']) ?_)
      obtain ⟨z0,z1,z2,z3,z4,z5,z6,z7,z8⟩ := NineAt.of_block HE.out.1
      exact bodyPost_ret (v := .tuple #[.agg zC,.bool false]) (by simp [results,Try.results13,go_sem,z0,z1,z2,z3,z4,z5,z6,z7,z8]) rfl ⟨zC,by rw [HNo.out],⟨{},none,0,0,none,0,0,rfl⟩,HBw.out ▸ HE.out.2,fun h => by rw [HNo.out] at h; cases h⟩
   case rest =>
    obtain ⟨a,c,vs,rfl,hA,hn12⟩ := hcut
    have HN12 := hid hn12
    have HA := hid hA
    clear hA hn12
    have HPl : Hid ((pl ++ if hasN k = true then [intT n] else []).length ≤ 5) := by have := HPl.out; show _ ≤ _; rw [List.length_append]; split <;> simp <;> omega
    generalize (pl ++ if hasN k = true then [intT n] else []) = pl2 at *
    go_upto_if 71 with fail
    go_cut [5] from 69 to 91 (fun t5 wx => ∃ (a : Option Addr) (c : Nat) (vs : List (Array Value)),t5 = .slice a (pl2 ++ if hasX k = true then [x] else []).length c ∧ WhAt B P R (sgC k I3.zero I3.zero I3.zero {} nilV nilV 0) a c (pl2 ++ if hasX k = true then [x] else []) vs w6 wx ∧ (hasX k = true → shapedB k x = true))
    case first =>
     cases hX : hasX k
     ·rw [hX] at q16
      have hx := HX.out hX
      have HRe := hid HRep.out
      rw [hx] at HRe HA
      have he := rep_empty HRe.out
      have e1 : Value.slice a1 m1 c1 = nilV := by have := congrArg (fun q : Array Value => q[7]?) he; simpa using this
      have e2 : Value.slice a2 m2 c2 = nilV := by have := congrArg (fun q : Array Value => q[8]?) he; simpa using this
      have HA2 : Hid (WhAt B P R (sgC k I3.zero I3.zero I3.zero {} nilV nilV 0) a c pl2 vs w6 wc) := by have := HA.out; rw [e1,e2] at this; exact this
      clear e1 e2 he
      go_wp2_with fail
      go_meet
      exact ⟨a,c,vs,by rw [hX]; simp,by rw [hX]; simpa using HA2.out,fun h => by rw [hX] at h; cases h⟩
     ·rw [hX] at q16
      have HXk := hid hX
      obtain ⟨hg1,hg2⟩ := HG.out hX
      have HG1 := hid hg1
      have HG2 := hid hg2
      have hll : x.l.length ≤ 1000000 := good_len hg1
      clear hg1 hg2
      obtain ⟨k0,k1,k2,k3,k4,k5,k6,k7,k8,k9,k10,k11,k12,k13,k14,k15,k16,k17,k18,k19⟩ := sg_cells ((HA.out.old (by have := hBP; omega)).trans HX6.out)
      have hxk : ∀ w',Below B w w' → Rep w' (fun b => b < B) x (hdC x.hd (.slice a1 m1 c1) (.slice a2 m2 c2)) := fun w' hb => Rep.keep (fun b e _ => hb.block b e) _ _ HRep.out
      have HXk2 := hid hxk
      have HRepC := hid (hxk wc (HA.out.below HB6.out))
      have HFb := hid (show ∀ b,b < B → b < wc.heap.size from fun b e => by have := (HA.out.below HB6.out).size; have := HBw.out; omega)
      clear hxk
      go_wp2_with fail
      refine (check_good x HG1.out HG2.out _ _ wc HRepC.out HFb.out).mono ?_
      rintro e w11 ⟨rfl,hb⟩
      have HA11 := hid (HA.out.call hb)
      have HRep11 := hid (HXk2.out w11 (HA11.out.below HB6.out))
      clear hb k0 k1 k2 k3 k4 k5 k6 k7 k8 k9 k10 k11 k12 k13 k14 k15 k16 k17 k18 k19 HRepC HFb
      obtain ⟨k0,k1,k2,k3,k4,k5,k6,k7,k8,k9,k10,k11,k12,k13,k14,k15,k16,k17,k18,k19⟩ := sg_cells ((HA11.out.old (by have := hBP; omega)).trans HX6.out)
      go_wp2_with fail
      refine (shaped_any k x _ _ w11 HRep11.out hll).mono ?_
      rintro e w12 ⟨rfl,hb⟩
      have HA12 := hid (HA11.out.call hb)
      have HRep12 := hid (HXk2.out w12 (HA12.out.below HB6.out))
      clear hb k0 k1 k2 k3 k4 k5 k6 k7 k8 k9 k10 k11 k12 k13 k14 k15 k16 k17 k18 k19 HA11 HRep11
      cases hsh : shapedB k x
      ·have HNo := hid (show wholeB k f t r x n = false by simp [wholeB,hX,hsh])
       have HY11 := hid ((HA12.out.old hBP).trans HY6.out)
       have HE := hid (HA12.out.end' (cs := zC) HB6.out (Nat.le_succ B) HY11.out)
       go_wp2_with (refine wpList_store_row rfl 31 (.tmp 2) (.tmp 84) rfl (B + 1) zC rfl rfl 31 zC HY11.out infoT9 rfl (by simp [Array.all,Value.oneCell']) ?_)
       obtain ⟨z0,z1,z2,z3,z4,z5,z6,z7,z8⟩ := NineAt.of_block HE.out.1
       exact bodyPost_ret (v := .tuple #[.agg zC,.bool false]) (by simp [results,Try.results13,go_sem,z0,z1,z2,z3,z4,z5,z6,z7,z8]) rfl ⟨zC,by rw [HNo.out],⟨{},none,0,0,none,0,0,rfl⟩,HBw.out ▸ HE.out.2,fun h => by rw [HNo.out] at h; cases h⟩
      ·have HSh := hid hsh
       obtain ⟨k0,k1,k2,k3,k4,k5,k6,k7,k8,k9,k10,k11,k12,k13,k14,k15,k16,k17,k18,k19⟩ := sg_cells ((HA12.out.old (by have := hBP; omega)).trans HX6.out)
       go_upto_region 23 with fail
       have HR12 := hid (row_same (w' := w12.alloc (.cells (hdC x.hd (.slice a1 m1 c1) (.slice a2 m2 c2)) 31)) HA12.out.row (fun b _ hb => Below.heap_alloc _ _ b hb))
       have HS12 := hid (show Src Try.prog 9 29 (.slice (some ⟨w12.heap.size,0,none⟩) 1 1) 1 (hdC x.hd (.slice a1 m1 c1) (.slice a2 m2 c2)).toList (w12.alloc (.cells (hdC x.hd (.slice a1 m1 c1) (.slice a2 m2 c2)) 31)) from
        Src.ofSlice _ Try.underlying29 _ _ _ _ rfl (World.news_of_block (heap_alloc_new w12 _)) (nine_one _ _ _ _ _ _ _ _ _ _ _ _ _ _))
       have HM1 := hid (show pl2.length + 1 ≤ maxLen by have := HPl.out; unfold maxLen; omega)
       have HM2 := hid (show (pl2.length + 1) * 120 ≤ 140737488355328 by have := HPl.out; omega)
       have HM3 := hid (show P ≤ (w12.alloc (.cells (hdC x.hd (.slice a1 m1 c1) (.slice a2 m2 c2)) 31)).heap.size by have := HA12.out.size; have := HA12.out.r0; have := HPR.out; simp; omega)
       go_upto_region 24 with (at_builtin; refine wpList_app _ rfl (.tmp 85) (.tmp 88) 29 29 rfl P 31 i0 (.agg zC) 9 120 Try.underlying29 X1.out X2.out X3.out X4.out rfl (by decide) _ pl2.length (cat vs) rfl HR12.out _ 1 (hdC x.hd (.slice a1 m1 c1) (.slice a2 m2 c2)).toList rfl HS12.out HM1.out HM2.out HM3.out ?_; intro a4 c4 w4 ho4 hg4 _ hl4; have HO4 := hid ho4; have HG4 := hid hg4; have HL4 := hid hl4; clear ho4 hg4 hl4)
       have HA13 := hid (HA12.out.next HRep12.out HG4.out HO4.out HL4.out)
       clear k0 k1 k2 k3 k4 k5 k6 k7 k8 k9 k10 k11 k12 k13 k14 k15 k16 k17 k18 k19
       obtain ⟨b0,b1,b2,b3,b4,b5,b6,b7,b8,b9,b10,b11,b12,b13,b14,b15,b16,b17,b18,b19⟩ := sg_cells HA13.out.rb
       have hfz := fz_of HA13.out.rb
       have HA14 := hid (HA13.out.set9 (o := 10) (d0 := .int .i64 0) (d1 := .int .i64 0) (d2 := .complex .f64 0 0) (d3 := .string ⟨#[]⟩) (d4 := .int .i64 0) (d5 := .int .u32 0) (d6 := .int .u64 0) (d7 := nilV) (d8 := nilV) (rc' := sgC k I3.zero I3.zero I3.zero {} nilV nilV 0) (sg_set9 _ _ _ _ _ _ _ _))
       clear HR12 HS12 HM1 HM2 HM3 HO4 HG4 HL4 HA12 HA13
       go_wp2_with fail
       go_meet
       exact ⟨a4,c4,_,by rw [HXk.out]; simp,by rw [HXk.out]; simpa using HA14.out,fun _ => HSh.out⟩
    case rest =>
     obtain ⟨a,c,vs,rfl,hA,hsh⟩ := hcut
     have HA := hid hA
     have HYes := hid (show wholeB k f t r x n = true by
      unfold wholeB
      rw [HIB.out]
      have h1 := HN12.out
      cases eN : hasN k <;> cases eX : hasX k
      ·rfl
      ·simp [hsh eX]
      ·simp [h1 eN]
      ·simp [h1 eN,hsh eX])
     clear hA hsh
     have hpos := sgParts_pos k f t r x n
     have HPl : Hid ((pl2 ++ if hasX k = true then [x] else []).length ≤ 6) := by have := HPl.out; show _ ≤ _; rw [List.length_append]; split <;> simp <;> omega
     rw [HPdef.out] at hpos
     generalize (pl2 ++ if hasX k = true then [x] else []) = pl3 at *
     have HPos := hid hpos
     clear hpos
     obtain ⟨b0,b1,b2,b3,b4,b5,b6,b7,b8,b9,b10,b11,b12,b13,b14,b15,b16,b17,b18,b19⟩ := sg_cells HA.out.rb
     go_upto_region 26 with fail
     clear b0 b1 b2 b3 b4 b5 b6 b7 b8 b9 b10 b11 b12 b13 b14 b15 b16 b17 b18 b19
     have HA2 := hid (HA.out.alloc (.cells zC 31))
     have hA3 := HA2.out.alloc (.cells zC 31)
     have HSr := hid (parts_src hA3.row hA3.reps HPos.out)
     clear hA3 HA
     have e20 : wc.alloc (.cells zC 31) = wc.alloc (.cells #[.int .i64 0,.int .i64 0,.complex .f64 0 0,.string ⟨#[]⟩,.int .i64 0,.int .u32 0,.int .u64 0,nilV,nilV] 31) := rfl
     have HZ20 := hid (heap_new wc (.cells zC 31))
     rw [e20] at HA2 HSr HZ20
     clear e20
     generalize wc.alloc (.cells #[.int .i64 0,.int .i64 0,.complex .f64 0 0,.string ⟨#[]⟩,.int .i64 0,.int .u32 0,.int .u64 0,nilV,nilV] 31) = w20 at *
     have hz20 := HZ20.out
     generalize wc.heap.size = Z at *
     obtain ⟨b0,b1,b2,b3,b4,b5,b6,b7,b8,b9,b10,b11,b12,b13,b14,b15,b16,b17,b18,b19⟩ := sg_cells HA2.out.rb
     obtain ⟨z0,z1,z2,z3,z4,z5,z6,z7,z8⟩ := NineAt.of_block hz20
     clear hz20 HZ20
     go_wp2_with fail
     clear z0 z1 z2 z3 z4 z5 z6 z7 z8 b0 b1 b2 b3 b4 b5 b6 b7 b8 b9 b10 b11 b12 b13 b14 b15 b16 b17 b18 b19
     refine (tuple_any a pl3.length c (cat vs) w20 (by have := HPl.out; omega) HSr.out).mono ?_
     rintro e w21 ⟨a5,c5,rfl,ho5,hb5⟩
     have HA21 := hid (HA2.out.call hb5)
     have HY21 := hid ((HA21.out.old hBP).trans HY6.out)
     have HE := hid (HA21.out.end' (cs := tuC (.slice a5 pl3.length c5)) HB6.out (Nat.le_succ B) HY21.out)
     have hT := setRow_turn w21 (B + 1) (tuC (.slice a5 pl3.length c5))
     have hnb : B + 1 < w20.heap.size := by have := HA2.out.size; have := HA2.out.r0; have := HPR.out; omega
     have hrow5 := row_same (w' := w21.setRow (B + 1) (tuC (.slice a5 pl3.length c5))) ho5 (fun b e hb => hT.block b hb (fun e2 => by have := (ho5.lt b e).1; omega))
     have hreps5 := Reps.keep (w' := w21.setRow (B + 1) (tuC (.slice a5 pl3.length c5))) (fun b e hb => hT.block b hb (fun e2 => by omega)) _ _ HA21.out.reps
     have HRep5 := hid (show Rep (w21.setRow (B + 1) (tuC (.slice a5 pl3.length c5))) (fun b => b < (w21.setRow (B + 1) (tuC (.slice a5 pl3.length c5))).heap.size) (.mk { kind := 6 } pl3) (tuC (.slice a5 pl3.length c5)) from
      ⟨nilV,.slice a5 pl3.length c5,rfl,Row.nil _ _ _ _,vs,⟨owns_mono hrow5 (Nat.zero_le _),fun b e => (hrow5.lt b e).2,fun e => by have := HPos.out; omega⟩,Reps.mono (fun b _ hb => hb) _ _ hreps5⟩)
     clear hrow5 hreps5 hT ho5 hb5 HA2 HSr hnb
     go_wp2_with (refine wpList_store_row rfl 31 (.tmp 2) (.tmp 157) rfl (B + 1) (tuC (.slice a5 pl3.length c5)) rfl rfl 31 zC HY21.out infoT9 rfl (by simp [Array.all,Value.oneCell']) ?_)
     obtain ⟨z0,z1,z2,z3,z4,z5,z6,z7,z8⟩ := NineAt.of_block HE.out.1
     exact bodyPost_ret (v := .tuple #[.agg (tuC (.slice a5 pl3.length c5)),.bool true]) (by simp [results,Try.results13,go_sem,z0,z1,z2,z3,z4,z5,z6,z7,z8]) rfl ⟨tuC (.slice a5 pl3.length c5),by rw [HYes.out],⟨{ kind := 6 },none,0,0,a5,pl3.length,c5,rfl⟩,HBw.out ▸ HE.out.2,fun _ => by rw [HPdef.out]; exact HRep5.out⟩
end Go.Proofs.Ytgadkiljnebicaa
