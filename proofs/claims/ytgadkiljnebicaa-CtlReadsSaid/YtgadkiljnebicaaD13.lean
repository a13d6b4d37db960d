/- Several texts in one. -/
import Derived.Test.YtgadkiljnebicaaD11
import Derived.Test.YtgadkiljnebicaaD02
import Derived.Test.YtgadkiljnebicaaD12
import Derived.Test.YtgadkiljnebicaaD09
import Derived.Test.YtgadkiljnebicaaD08
import Derived.Deep.AppendLies
import Derived.Recover
import Derived.Laws.Pointers
import Derived.Deep.RegionHeld3
namespace Go.Proofs.Ytgadkiljnebicaa
open Go.Lib (hid)
open Go.RowKit
set_option maxRecDepth 100000
theorem WrAt.kept {B Wb p m c : Nat} {v : Value} {a : Option Addr} {out : List UInt8} {names : List ByteArray} {W W0 w1 : World} (h : WrAt B Wb p m v a c out names W) (hb0 : Below W.heap.size W W0) (hg : W0.grownBy w1 (Value.slice a out.length c).ownBlock) :
  w1.cell? ⟨Wb,0,none⟩ = some (.slice a out.length c) ∧ w1.frozen? ⟨Wb,0,none⟩ = false := by
 have e : w1.heap[Wb]? = W.heap[Wb]? := ((Turn.of_grownBy hg).block Wb (by have := h.wl; have := hb0.size; omega) fun e => (h.far Wb e).1 rfl).trans (hb0.block Wb h.wl)
 exact ⟨(World.cell?_of_block (w := W) e).trans h.c0,(World.frozen?_of_block (w := W) e).trans (h.fz 0)⟩
theorem cell1 {x n : Nat} (h : x < 256) (hn : n = x) : [UInt8.ofNat n].map cellB = [.int .u8 (x : Int)] := by
 subst hn
 show [Value.int .u8 _] = _
 rw [ofNat_toNat,Nat.mod_eq_of_lt h]
theorem WrAt.put {B Wb p m c : Nat} {v v2 : Value} {a : Option Addr} {out : List UInt8} {names names2 : List ByteArray} {W W2 : World} (h : WrAt B Wb p m v a c out names W) (ht : Tab W2 p m v2 names2) (hT : Turn (tabIn p m v) W W2) (hv : v2.ownBlock = v.ownBlock ∨ ∀ b,v2.ownBlock = some b → W.heap.size ≤ b) :
  WrStep B Wb p m v a c out W v2 a c out names2 W2 := by
 have hin : ∀ i,i < W.heap.size → tabIn p m v2 i → tabIn p m v i := by
  rintro i hi (e | e | e)
  ·exact .inl e
  ·exact .inr (.inl e)
  ·rcases hv with hv | hv
   ·exact .inr (.inr (hv.symm.trans e))
   ·have := hv i e; omega
 refine ⟨⟨(hT.block _ h.wl h.alone).trans h.cells,row_same h.row fun b e hl => hT.block b hl (h.far b e).2,ht,fun b e => ⟨(h.far b e).1,fun k => (h.far b e).2 (hin b (h.row.lt b e).2 k)⟩,fun k => h.alone (hin _ h.wl k),h.from1,?_⟩,hT.mono fun i _ e => .inr (.inl e),.inl rfl,hv⟩
 rintro i (e | e | e)
 ·exact h.from2 i (.inl e)
 ·exact h.from2 i (.inr (.inl e))
 ·rcases hv with hv | hv
  ·exact h.from2 i (.inr (.inr (hv.symm.trans e)))
  ·have := hv i e; have := h.bl; omega
end Go.Proofs.Ytgadkiljnebicaa
namespace Go.Proofs.Ytgadkiljnebicaa
open Go.Lib (hid)
open Go.RowKit
set_option maxRecDepth 100000
attribute [local go_sem] run_store_complex
structure Has where
 f : Bool
 t : Bool
 r : Bool
def hasK (k : Int) : Has :=
 if k = 1 ∨ k = 2 ∨ k = 3 ∨ k = 4 then ⟨true,true,false⟩ else if k = 5 ∨ k = 6 ∨ k = 7 then ⟨true,true,true⟩ else if k = 9 then ⟨false,true,true⟩ else ⟨true,false,true⟩
def Has.p1 (h : Has) : List (Nat × Int) := if h.f then [(1,5)] else []
def Has.p2 (h : Has) : List (Nat × Int) := h.p1 ++ if h.t then [(4,5)] else []
def Has.all (h : Has) : List (Nat × Int) := h.p2 ++ if h.r then [(7,4)] else []
def Has.upto (h : Has) (j : Nat) : List (Nat × Int) := if j = 0 then [] else if j = 1 then h.p1 else if j = 2 then h.p2 else h.all
def idCells (S : Nat) (l : List (Nat × Int)) : List Value := l.flatMap fun e => [.pointer (some ⟨S,e.1,none⟩),.int .i64 e.2]
theorem idCells_app (S : Nat) (l m : List (Nat × Int)) : idCells S (l ++ m) = idCells S l ++ idCells S m := by simp [idCells]
theorem upto_le (h : Has) (j : Nat) : (h.upto j).length ≤ 3 := by
 obtain ⟨a,b,c⟩ := h
 unfold Has.upto
 cases a <;> cases b <;> cases c <;> simp only [Has.all,Has.p2,Has.p1] <;> (split <;> (try split) <;> (try split) <;> simp)
theorem marks (k : Int) (h1 : 1 ≤ k) (h2 : k ≤ 11) : (bits .and .i64 (markK k) 1 != 0) = (hasK k).f ∧ (bits .and .i64 (markK k) 2 != 0) = (hasK k).t ∧ (bits .and .i64 (markK k) 4 != 0) = (hasK k).r := by
 rcases kind_cases h1 h2 with rfl | rfl | rfl | rfl | rfl | rfl | rfl | rfl | rfl | rfl | rfl <;> (refine ⟨?_,?_,?_⟩ <;> decide)
abbrev tPair : TypeId := 50
theorem infoPair : (Try.prog.info? tPair).map (fun i => (i.zero,i.size,i.bytes)) = some (some (.agg #[.pointer none,.int .i64 0]),2,16) := by kernel_rfl
def IdsPost (S : Nat) (l : List (Nat × Int)) (W : World) (e : Ending) (w' : World) : Prop :=
 ∃ (a : Option Addr) (c : Nat),e = .returned (.slice a l.length c) ∧ w'.ownsRow W.heap.size tPair 2 (.slice a l.length c) l.length (idCells S l) ∧ Below W.heap.size W w'
structure IdsAt (S B : Nat) (h : Has) (j : Nat) (a : Option Addr) (c : Nat) (W wr : World) : Prop where
 row : wr.ownsRow B tPair 2 (.slice a (h.upto j).length c) (h.upto j).length (idCells S (h.upto j))
 below : Below B W wr
 le : B ≤ wr.heap.size
theorem src_pair {S o N : Nat} {kd : Int} (w : World) (hN : w.heap.size = N) : Src Try.prog 2 46 (.slice (some ⟨N,0,none⟩) 1 1) 1 [.pointer (some ⟨S,o,none⟩),.int .i64 kd] (w.alloc (.cells #[.pointer (some ⟨S,o,none⟩),.int .i64 kd] tPair)) :=
 hN ▸ Src.ofSlice _ Try.underlying46 _ _ _ _ rfl (World.news_of_block (heap_alloc_new w _)) (by
  intro u hu
  simp only [List.mem_cons,List.not_mem_nil,or_false] at hu
  rcases hu with rfl | rfl <;> rfl)
theorem IdsAt.skip {S B j : Nat} {h : Has} {a : Option Addr} {c : Nat} {W wr : World} {x : Obj} (hT : IdsAt S B h j a c W wr) (hU : h.upto (j + 1) = h.upto j) : IdsAt S B h (j + 1) a c W (wr.alloc x) := by
 refine ⟨?_,hT.below.alloc hT.le _,Nat.le_trans hT.le (by simp)⟩
 rw [hU]
 exact row_same hT.row fun b e hb => ((Below.refl _ wr).alloc (Nat.le_refl _) _).block b hb
theorem IdsAt.next {S B j : Nat} {h : Has} {a : Option Addr} {c o : Nat} {kd : Int} {W wr w4 : World} {x y : Obj} {a4 : Option Addr} {c4 : Nat} (hT : IdsAt S B h j a c W wr) (hU : h.upto (j + 1) = h.upto j ++ [(o,kd)])
  (ho : w4.ownsRow B tPair 2 (.slice a4 ((h.upto j).length + 1) c4) ((h.upto j).length + 1) (idCells S (h.upto j) ++ [.pointer (some ⟨S,o,none⟩),.int .i64 kd])) (hg : ((wr.alloc x).alloc y).grownBy w4 (Value.slice a (h.upto j).length c).ownBlock) :
  IdsAt S B h (j + 1) a4 c4 W w4 := by
 have hb : Below B W ((wr.alloc x).alloc y) := (hT.below.alloc hT.le _).alloc (by have := hT.le; simp; omega) _
 have hs : B ≤ ((wr.alloc x).alloc y).heap.size := by have := hT.le; simp; omega
 refine ⟨?_,hb.trans ((Turn.of_grownBy hg).below hs fun i e => (hT.row.lt i e).1),Nat.le_trans hs hg.size⟩
 rw [hU,idCells_app]
 simpa [idCells] using ho
set_option maxHeartbeats 4000000 in
theorem ids_any (k : Int) (h1 : 1 ≤ k) (h2 : k ≤ 11) (S : Nat) (w : World) (hS : w.cell? ⟨S,0,none⟩ = some (.int .i64 k)) : Calls Try.prog 11 #[.pointer (some ⟨S,0,none⟩)] w (IdsPost S (hasK k).all w) := by
 obtain ⟨m1,m2,m3⟩ := marks k h1 h2
 obtain ⟨i0,hi,hz0,hz1,hz2⟩ := info_parts infoPair
 have X1 := hid hi
 have X2 := hid hz0
 have X3 := hid hz1
 have X4 := hid hz2
 clear hi hz0 hz1 hz2
 go_enter Try.func11,Try.ntmps11
 go_wp2_with fail
 refine (fields_any k h1 h2 w).mono ?_
 rintro e w1 ⟨rfl,hb⟩
 have HB1 := hid hb
 have hS1 := hb.cell (p := ⟨S,0,none⟩) (cell_lt hS)
 clear hb
 generalize markK k = f at *
 generalize hasK k = h at *
 go_wp2_with fail
 go_region
 clear hS hS1
 have HB2 := hid (HB1.out.alloc HB1.out.size (.cells #[.int .i64 1,.pointer (some ⟨S,1,none⟩),.int .i64 5,.int .i64 2,.pointer (some ⟨S,4,none⟩),.int .i64 5,.int .i64 4,.pointer (some ⟨S,7,none⟩),.int .i64 4] 72)).drew
 have HL2 := hid (show ((w1.alloc (.cells #[.int .i64 1,.pointer (some ⟨S,1,none⟩),.int .i64 5,.int .i64 2,.pointer (some ⟨S,4,none⟩),.int .i64 5,.int .i64 4,.pointer (some ⟨S,7,none⟩),.int .i64 4] 72)).drew).heap[w1.heap.size]? = some (.cells #[.int .i64 1,.pointer (some ⟨S,1,none⟩),.int .i64 5,.int .i64 2,.pointer (some ⟨S,4,none⟩),.int .i64 5,.int .i64 4,.pointer (some ⟨S,7,none⟩),.int .i64 4] 72 (0,0)) from heap_new w1 _)
 go_wp2_with fail
 generalize (w1.alloc (.cells #[.int .i64 1,.pointer (some ⟨S,1,none⟩),.int .i64 5,.int .i64 2,.pointer (some ⟨S,4,none⟩),.int .i64 5,.int .i64 4,.pointer (some ⟨S,7,none⟩),.int .i64 4] 72)).drew = w2 at *
 generalize w1.heap.size = Lb at *
 have HA := hid (show IdsAt S w2.heap.size h 0 none 0 w2 w2 from ⟨World.ownsRow_nil _ _ _ _,Below.refl _ _,Nat.le_refl _⟩)
 go_loopw [4,26] (fun t4 t26 wr => ∃ (j : Nat) (a : Option Addr) (c : Nat),j ≤ 3 ∧ t26 = .int .i64 j ∧ t4 = .slice a (h.upto j).length c ∧ IdsAt S w2.heap.size h j a c w2 wr) (fun _ t26 _ => 3 - (intOf t26).toNat)
 case atStart => exact ⟨0,none,0,by omega,rfl,rfl,HA.out⟩
 case round =>
  obtain ⟨j,a,c,hj,rfl,rfl,hat⟩ := hrel
  have HT := hid hat
  clear hat HA
  have HLr := hid ((HT.out.below.block Lb (blk_lt HL2.out)).trans HL2.out)
  rcases (show j = 0 ∨ j = 1 ∨ j = 2 ∨ j = 3 by omega) with rfl | rfl | rfl | rfl
  ·have k0 : wr.cell? ⟨Lb,0,none⟩ = some (.int .i64 1) := by simp [World.cell?,HLr.out]
   have k1 : wr.cell? ⟨Lb,1,none⟩ = some (.pointer (some ⟨S,1,none⟩)) := by simp [World.cell?,HLr.out]
   have k2 : wr.cell? ⟨Lb,2,none⟩ = some (.int .i64 5) := by simp [World.cell?,HLr.out]
   cases e : h.f
   ·rw [e] at m1
    have HU := hid (show h.upto 1 = h.upto 0 by simp [Has.upto,Has.p1,e])
    go_wp2_with fail
    go_round
    case rel => exact ⟨1,a,c,by omega,rfl,by rw [HU.out],IdsAt.skip HT.out HU.out⟩
    case measure => simp [intOf]
   ·rw [e] at m1
    have HU := hid (show h.upto 1 = h.upto 0 ++ [(1,5)] by simp [Has.upto,Has.p1,e])
    have HR3 := hid (row_same (w' := (wr.alloc (.cells #[.int .i64 1,.pointer (some ⟨S,1,none⟩),.int .i64 5] 72)).alloc (.cells #[.pointer (some ⟨S,1,none⟩),.int .i64 5] tPair)) HT.out.row (fun b e hb => (((Below.refl _ wr).alloc (Nat.le_refl _) _).alloc (by simp) _).block b hb))
    have HS3 := hid (src_pair (S := S) (o := 1) (kd := 5) (N := wr.heap.size + 1) (wr.alloc (.cells #[.int .i64 1,.pointer (some ⟨S,1,none⟩),.int .i64 5] 72)) (by simp))
    have HM1 := hid (show (h.upto 0).length + 1 ≤ maxLen by have := upto_le h 0; unfold maxLen; omega)
    have HM2 := hid (show ((h.upto 0).length + 1) * 16 ≤ 140737488355328 by have := upto_le h 0; omega)
    have HM3 := hid (show w2.heap.size ≤ ((wr.alloc (.cells #[.int .i64 1,.pointer (some ⟨S,1,none⟩),.int .i64 5] 72)).alloc (.cells #[.pointer (some ⟨S,1,none⟩),.int .i64 5] tPair)).heap.size by have := HT.out.le; simp; omega)
    go_wp2_with (at_builtin; refine wpList_app _ rfl (.tmp 35) (.tmp 41) 46 46 rfl w2.heap.size tPair i0 (.agg #[.pointer none,.int .i64 0]) 2 16 Try.underlying46 X1.out X2.out X3.out X4.out rfl (by decide) _ (h.upto 0).length (idCells S (h.upto 0)) rfl HR3.out _ 1 [.pointer (some ⟨S,1,none⟩),.int .i64 5] rfl HS3.out HM1.out HM2.out HM3.out ?_; intro a4 c4 w4 ho4 hg4 _ _; have HO4 := hid ho4; have HG4 := hid hg4; clear ho4 hg4)
    go_round
    case rel => exact ⟨1,a4,c4,by omega,rfl,by rw [HU.out]; simp,IdsAt.next HT.out HU.out HO4.out HG4.out⟩
    case measure => simp [intOf]
  ·have k0 : wr.cell? ⟨Lb,3,none⟩ = some (.int .i64 2) := by simp [World.cell?,HLr.out]
   have k1 : wr.cell? ⟨Lb,4,none⟩ = some (.pointer (some ⟨S,4,none⟩)) := by simp [World.cell?,HLr.out]
   have k2 : wr.cell? ⟨Lb,5,none⟩ = some (.int .i64 5) := by simp [World.cell?,HLr.out]
   cases e : h.t
   ·rw [e] at m2
    have HU := hid (show h.upto 2 = h.upto 1 by simp [Has.upto,Has.p2,e])
    go_wp2_with fail
    go_round
    case rel => exact ⟨2,a,c,by omega,rfl,by rw [HU.out],IdsAt.skip HT.out HU.out⟩
    case measure => simp [intOf]
   ·rw [e] at m2
    have HU := hid (show h.upto 2 = h.upto 1 ++ [(4,5)] by simp [Has.upto,Has.p2,e])
    have HR3 := hid (row_same (w' := (wr.alloc (.cells #[.int .i64 2,.pointer (some ⟨S,4,none⟩),.int .i64 5] 72)).alloc (.cells #[.pointer (some ⟨S,4,none⟩),.int .i64 5] tPair)) HT.out.row (fun b e hb => (((Below.refl _ wr).alloc (Nat.le_refl _) _).alloc (by simp) _).block b hb))
    have HS3 := hid (src_pair (S := S) (o := 4) (kd := 5) (N := wr.heap.size + 1) (wr.alloc (.cells #[.int .i64 2,.pointer (some ⟨S,4,none⟩),.int .i64 5] 72)) (by simp))
    have HM1 := hid (show (h.upto 1).length + 1 ≤ maxLen by have := upto_le h 1; unfold maxLen; omega)
    have HM2 := hid (show ((h.upto 1).length + 1) * 16 ≤ 140737488355328 by have := upto_le h 1; omega)
    have HM3 := hid (show w2.heap.size ≤ ((wr.alloc (.cells #[.int .i64 2,.pointer (some ⟨S,4,none⟩),.int .i64 5] 72)).alloc (.cells #[.pointer (some ⟨S,4,none⟩),.int .i64 5] tPair)).heap.size by have := HT.out.le; simp; omega)
    go_wp2_with (at_builtin; refine wpList_app _ rfl (.tmp 35) (.tmp 41) 46 46 rfl w2.heap.size tPair i0 (.agg #[.pointer none,.int .i64 0]) 2 16 Try.underlying46 X1.out X2.out X3.out X4.out rfl (by decide) _ (h.upto 1).length (idCells S (h.upto 1)) rfl HR3.out _ 1 [.pointer (some ⟨S,4,none⟩),.int .i64 5] rfl HS3.out HM1.out HM2.out HM3.out ?_; intro a4 c4 w4 ho4 hg4 _ _; have HO4 := hid ho4; have HG4 := hid hg4; clear ho4 hg4)
    go_round
    case rel => exact ⟨2,a4,c4,by omega,rfl,by rw [HU.out]; simp,IdsAt.next HT.out HU.out HO4.out HG4.out⟩
    case measure => simp [intOf]
  ·have k0 : wr.cell? ⟨Lb,6,none⟩ = some (.int .i64 4) := by simp [World.cell?,HLr.out]
   have k1 : wr.cell? ⟨Lb,7,none⟩ = some (.pointer (some ⟨S,7,none⟩)) := by simp [World.cell?,HLr.out]
   have k2 : wr.cell? ⟨Lb,8,none⟩ = some (.int .i64 4) := by simp [World.cell?,HLr.out]
   cases e : h.r
   ·rw [e] at m3
    have HU := hid (show h.upto 3 = h.upto 2 by simp [Has.upto,Has.all,e])
    go_wp2_with fail
    go_round
    case rel => exact ⟨3,a,c,by omega,rfl,by rw [HU.out],IdsAt.skip HT.out HU.out⟩
    case measure => simp [intOf]
   ·rw [e] at m3
    have HU := hid (show h.upto 3 = h.upto 2 ++ [(7,4)] by simp [Has.upto,Has.all,e])
    have HR3 := hid (row_same (w' := (wr.alloc (.cells #[.int .i64 4,.pointer (some ⟨S,7,none⟩),.int .i64 4] 72)).alloc (.cells #[.pointer (some ⟨S,7,none⟩),.int .i64 4] tPair)) HT.out.row (fun b e hb => (((Below.refl _ wr).alloc (Nat.le_refl _) _).alloc (by simp) _).block b hb))
    have HS3 := hid (src_pair (S := S) (o := 7) (kd := 4) (N := wr.heap.size + 1) (wr.alloc (.cells #[.int .i64 4,.pointer (some ⟨S,7,none⟩),.int .i64 4] 72)) (by simp))
    have HM1 := hid (show (h.upto 2).length + 1 ≤ maxLen by have := upto_le h 2; unfold maxLen; omega)
    have HM2 := hid (show ((h.upto 2).length + 1) * 16 ≤ 140737488355328 by have := upto_le h 2; omega)
    have HM3 := hid (show w2.heap.size ≤ ((wr.alloc (.cells #[.int .i64 4,.pointer (some ⟨S,7,none⟩),.int .i64 4] 72)).alloc (.cells #[.pointer (some ⟨S,7,none⟩),.int .i64 4] tPair)).heap.size by have := HT.out.le; simp; omega)
    go_wp2_with (at_builtin; refine wpList_app _ rfl (.tmp 35) (.tmp 41) 46 46 rfl w2.heap.size tPair i0 (.agg #[.pointer none,.int .i64 0]) 2 16 Try.underlying46 X1.out X2.out X3.out X4.out rfl (by decide) _ (h.upto 2).length (idCells S (h.upto 2)) rfl HR3.out _ 1 [.pointer (some ⟨S,7,none⟩),.int .i64 4] rfl HS3.out HM1.out HM2.out HM3.out ?_; intro a4 c4 w4 ho4 hg4 _ _; have HO4 := hid ho4; have HG4 := hid hg4; clear ho4 hg4)
    go_round
    case rel => exact ⟨3,a4,c4,by omega,rfl,by rw [HU.out]; simp,IdsAt.next HT.out HU.out HO4.out HG4.out⟩
    case measure => simp [intOf]
  ·have HU := hid (show h.upto 3 = h.all from rfl)
   have hm : (h.upto 3).length = h.all.length := rfl
   go_wp2_with fail
   go_ret
   have hr := HT.out.row
   have hsz := HB2.out.size
   exact ⟨a,c,rfl,owns_mono hr hsz,HB2.out.trans (HT.out.below.mono hsz)⟩
theorem bodyS_of {P : Program} {fn : Func} {c₀ : Frame} {cs : List Frame} {u' : FrameMode} {R' : Ending → World → Prop} {R : Ending → FrameMode → World → Prop} (hR : ∀ e w',R' e w' → R e u' w') : ∀ e a w',bodyPost P fn R' e a w' → bodyPostS P fn c₀ cs R e a ({ c₀ with mode := u' } :: cs) w' := by
 intro e a w' h
 cases e with
 | normal => exact ⟨h.1,u',rfl,h.2.imp fun v hv => ⟨hv.1,hR _ _ hv.2⟩⟩
 | ret => exact ⟨h.1,u',rfl,h.2.imp fun v hv => ⟨hv.1,hR _ _ hv.2⟩⟩
 | panic ch => exact ⟨h.1,u',rfl,hR _ _ h.2⟩
 | outgrown => exact ⟨u',hR _ _ h⟩
 | exit i => exact h
 | goto l => exact h
def ErrAt (w : World) (b : Nat) (c : Int) : Prop := w.heap[b]? = some (.cells #[.int .i64 c] 34 (0,0))
theorem nine_zero {w : World} {N1 N2 : Nat} {c e0 : Int} {c0 c1 c2 c3 c4 c5 c6 c7 c8 : Value} (h1 : w.heap[N1]? = some (.cells #[c0,c1,c2,c3,c4,c5,c6,c7,c8] 31 (0,0))) (h2 : w.heap[N2]? = some (.cells #[.int .i64 e0] 34 (0,0))) (hne : ¬ N2 = N1) (w9 : World) (hw : w9 = (((((((((w.setCell ⟨N1,0,none⟩ (.int .i64 0)).setCell ⟨N1,1,none⟩ (.int .i64 0)).setCell ⟨N1,2,none⟩ (.complex .f64 0 0)).setCell ⟨N1,3,none⟩ (.string ⟨#[]⟩)).setCell ⟨N1,4,none⟩ (.int .i64 0)).setCell ⟨N1,5,none⟩ (.int .u32 0)).setCell ⟨N1,6,none⟩ (.int .u64 0)).setCell ⟨N1,7,none⟩ (nilV)).setCell ⟨N1,8,none⟩ (nilV)).setCell ⟨N2,0,none⟩ (.int .i64 c)) :
  w9.heap[N1]? = some (.cells zC 31 (0,0)) ∧ ErrAt w9 N2 c ∧ Turn (fun i => i = N1 ∨ i = N2) w w9 := by
 have a0 : (w.setCell ⟨N1,0,none⟩ (.int .i64 0)).heap[N1]? = some (.cells #[.int .i64 0,c1,c2,c3,c4,c5,c6,c7,c8] 31 (0,0)) := heap_setCell_at h1
 have t0 := Turn.setCell w N1 0 (.int .i64 0)
 generalize w.setCell ⟨N1,0,none⟩ (.int .i64 0) = x0 at *
 have a1 : (x0.setCell ⟨N1,1,none⟩ (.int .i64 0)).heap[N1]? = some (.cells #[.int .i64 0,.int .i64 0,c2,c3,c4,c5,c6,c7,c8] 31 (0,0)) := heap_setCell_at a0
 have t1 := t0.trans (Turn.setCell x0 N1 1 (.int .i64 0))
 generalize x0.setCell ⟨N1,1,none⟩ (.int .i64 0) = x1 at *
 have a2 : (x1.setCell ⟨N1,2,none⟩ (.complex .f64 0 0)).heap[N1]? = some (.cells #[.int .i64 0,.int .i64 0,.complex .f64 0 0,c3,c4,c5,c6,c7,c8] 31 (0,0)) := heap_setCell_at a1
 have t2 := t1.trans (Turn.setCell x1 N1 2 (.complex .f64 0 0))
 generalize x1.setCell ⟨N1,2,none⟩ (.complex .f64 0 0) = x2 at *
 have a3 : (x2.setCell ⟨N1,3,none⟩ (.string ⟨#[]⟩)).heap[N1]? = some (.cells #[.int .i64 0,.int .i64 0,.complex .f64 0 0,.string ⟨#[]⟩,c4,c5,c6,c7,c8] 31 (0,0)) := heap_setCell_at a2
 have t3 := t2.trans (Turn.setCell x2 N1 3 (.string ⟨#[]⟩))
 generalize x2.setCell ⟨N1,3,none⟩ (.string ⟨#[]⟩) = x3 at *
 have a4 : (x3.setCell ⟨N1,4,none⟩ (.int .i64 0)).heap[N1]? = some (.cells #[.int .i64 0,.int .i64 0,.complex .f64 0 0,.string ⟨#[]⟩,.int .i64 0,c5,c6,c7,c8] 31 (0,0)) := heap_setCell_at a3
 have t4 := t3.trans (Turn.setCell x3 N1 4 (.int .i64 0))
 generalize x3.setCell ⟨N1,4,none⟩ (.int .i64 0) = x4 at *
 have a5 : (x4.setCell ⟨N1,5,none⟩ (.int .u32 0)).heap[N1]? = some (.cells #[.int .i64 0,.int .i64 0,.complex .f64 0 0,.string ⟨#[]⟩,.int .i64 0,.int .u32 0,c6,c7,c8] 31 (0,0)) := heap_setCell_at a4
 have t5 := t4.trans (Turn.setCell x4 N1 5 (.int .u32 0))
 generalize x4.setCell ⟨N1,5,none⟩ (.int .u32 0) = x5 at *
 have a6 : (x5.setCell ⟨N1,6,none⟩ (.int .u64 0)).heap[N1]? = some (.cells #[.int .i64 0,.int .i64 0,.complex .f64 0 0,.string ⟨#[]⟩,.int .i64 0,.int .u32 0,.int .u64 0,c7,c8] 31 (0,0)) := heap_setCell_at a5
 have t6 := t5.trans (Turn.setCell x5 N1 6 (.int .u64 0))
 generalize x5.setCell ⟨N1,6,none⟩ (.int .u64 0) = x6 at *
 have a7 : (x6.setCell ⟨N1,7,none⟩ (nilV)).heap[N1]? = some (.cells #[.int .i64 0,.int .i64 0,.complex .f64 0 0,.string ⟨#[]⟩,.int .i64 0,.int .u32 0,.int .u64 0,nilV,c8] 31 (0,0)) := heap_setCell_at a6
 have t7 := t6.trans (Turn.setCell x6 N1 7 (nilV))
 generalize x6.setCell ⟨N1,7,none⟩ (nilV) = x7 at *
 have a8 : (x7.setCell ⟨N1,8,none⟩ (nilV)).heap[N1]? = some (.cells #[.int .i64 0,.int .i64 0,.complex .f64 0 0,.string ⟨#[]⟩,.int .i64 0,.int .u32 0,.int .u64 0,nilV,nilV] 31 (0,0)) := heap_setCell_at a7
 have t8 := t7.trans (Turn.setCell x7 N1 8 (nilV))
 generalize x7.setCell ⟨N1,8,none⟩ (nilV) = x8 at *
 have b := (t8.block N2 (blk_lt h2) hne).trans h2
 subst hw
 exact ⟨(Below.heap_setCell x8 ⟨N2,0,none⟩ (.int .i64 c) N1 (fun e => hne e.symm)).trans a8,heap_setCell_at b,(t8.mono fun _ _ e => .inl e).trans ((Turn.setCell x8 N2 0 _).mono fun _ _ e => .inr e)⟩
theorem assert_fault (c : Int) (w : World) : (Instr.typeAssert (.iface 62 (.agg #[.int .i64 c])) 20 62 true).run Try.prog w = .ok (.tuple #[.agg #[.int .i64 c],.bool true]) w := by kernel_rfl
set_option maxHeartbeats 2000000 in
theorem catch_panicking (N1 N2 : Nat) (c : Int) (c0 c1 c2 c3 c4 c5 c6 c7 c8 : Value) (e0 : Int) (w : World) (h1 : w.heap[N1]? = some (.cells #[c0,c1,c2,c3,c4,c5,c6,c7,c8] 31 (0,0))) (h2 : ErrAt w N2 e0) (hne : ¬ N1 = N2) :
  CallsD Try.prog 21 #[.pointer (some ⟨N1,0,none⟩),.pointer (some ⟨N2,0,none⟩)] (.panicking [{ v := .iface 62 (.agg #[.int .i64 c]),recovered := false }]) w fun e u' w' =>
   e = .returned (.tuple #[]) ∧ u' = .panicking [{ v := .iface 62 (.agg #[.int .i64 c]),recovered := true }] ∧ w'.heap[N1]? = some (.cells zC 31 (0,0)) ∧ ErrAt w' N2 c ∧ Turn (fun i => i = N1 ∨ i = N2) w w' := by
 refine callsD_of_wpS Try.func21 rfl fun c₀ fr hu => ?_
 apply wpS_seq
 apply wpS_region
 simp [wpOpsS,go_sem,recoverD,hu,Try.ntmps21,Exit.thenS]
 refine wpS_of_wp ?_
 refine wp_mono (Q := bodyPost Try.prog Try.f21 fun e w' => e = .returned (.tuple #[]) ∧ w'.heap[N1]? = some (.cells zC 31 (0,0)) ∧ ErrAt w' N2 c ∧ Turn (fun i => i = N1 ∨ i = N2) w w') ?_ ?imp
 case imp =>
  intro e a w' h
  exact bodyS_of (fun e w' h => ⟨h.1,rfl,h.2⟩) e a w' h
 clear hu
 have hta := assert_fault c
 have ht : (#[Value.pointer (some ⟨N1,0,none⟩),.pointer (some ⟨N2,0,none⟩)] ++ ((Array.replicate 17 undef).setIfInBounds 3 (.iface 62 (.agg #[.int .i64 c]))).setIfInBounds 0 (.iface 62 (.agg #[.int .i64 c]))) =
   #[.pointer (some ⟨N1,0,none⟩),.pointer (some ⟨N2,0,none⟩),.iface 62 (.agg #[.int .i64 c]),undef,undef,.iface 62 (.agg #[.int .i64 c]),undef,undef,undef,undef,undef,undef,undef,undef,undef,undef,undef,undef,undef] := by rfl
 rw [ht]
 clear ht
 go_wp2_with fail
 have hl1 := blk_lt h1
 have hl2 := blk_lt h2
 have hF : ¬ w.heap.size = N1 := by omega
 have hF2 : ¬ w.heap.size = N2 := by omega
 have hb1 : (w.alloc (.cells #[.int .i64 c] 62)).heap[N1]? = some (.cells #[c0,c1,c2,c3,c4,c5,c6,c7,c8] 31 (0,0)) := (Below.heap_alloc w _ N1 hl1).trans h1
 have hb2 : (w.alloc (.cells #[.int .i64 c] 62)).heap[N2]? = some (.cells #[.int .i64 e0] 34 (0,0)) := (Below.heap_alloc w _ N2 hl2).trans h2
 have f0 : (w.alloc (.cells #[.int .i64 c] 62)).cell? ⟨w.heap.size,0,none⟩ = some (.int .i64 c) := by simp
 have HT := hid (Turn.alloc (fun i => i = N1 ∨ i = N2) w (.cells #[.int .i64 c] 62))
 clear h1 h2 hl1 hl2 hta
 generalize w.alloc (.cells #[.int .i64 c] 62) = w1 at *
 generalize w.heap.size = F at *
 have n0 : w1.cell? ⟨N1,0,none⟩ = some c0 := by simp [World.cell?,hb1]
 have n1 : w1.cell? ⟨N1,1,none⟩ = some c1 := by simp [World.cell?,hb1]
 have n2 : w1.cell? ⟨N1,2,none⟩ = some c2 := by simp [World.cell?,hb1]
 have n3 : w1.cell? ⟨N1,3,none⟩ = some c3 := by simp [World.cell?,hb1]
 have n4 : w1.cell? ⟨N1,4,none⟩ = some c4 := by simp [World.cell?,hb1]
 have n5 : w1.cell? ⟨N1,5,none⟩ = some c5 := by simp [World.cell?,hb1]
 have n6 : w1.cell? ⟨N1,6,none⟩ = some c6 := by simp [World.cell?,hb1]
 have n7 : w1.cell? ⟨N1,7,none⟩ = some c7 := by simp [World.cell?,hb1]
 have n8 : w1.cell? ⟨N1,8,none⟩ = some c8 := by simp [World.cell?,hb1]
 have nf := blk_fz hb1
 have m0 : w1.cell? ⟨N2,0,none⟩ = some (.int .i64 e0) := by simp [World.cell?,hb2]
 have mf := blk_fz hb2
 have hne2 : ¬ N2 = N1 := fun e => hne e.symm
 have hF3 : ¬ N1 = F := fun e => hF e.symm
 have hF4 : ¬ N2 = F := fun e => hF2 e.symm
 have HB1 := hid hb1
 have HB2 := hid hb2
 clear hb1 hb2
 go_region_held3 (fun w' => w'.cell? ⟨F,0,none⟩ = some (.int .i64 c)) (go_keep) (fail)
 go_end0
 have HC := nine_zero (c := c) HB1.out HB2.out hne2 _ rfl
 refine ⟨rfl,?_⟩
 rename_i hHeld
 clear hHeld
 generalize World.setCell _ ⟨N2,0,none⟩ (.int .i64 c) = w9 at *
 exact ⟨HC.1,HC.2.1,HT.out.trans HC.2.2.drew⟩
theorem catch_idle (N1 N2 : Nat) (w : World) :
  CallsD Try.prog 21 #[.pointer (some ⟨N1,0,none⟩),.pointer (some ⟨N2,0,none⟩)] .returning w fun e u' w' => e = .returned (.tuple #[]) ∧ u' = .returning ∧ w' = w := by
 refine callsD_of_wpS Try.func21 rfl fun c₀ fr hu => ?_
 apply wpS_seq
 apply wpS_region
 simp [wpOpsS,go_sem,recoverD,hu,Try.ntmps21,Exit.thenS]
 refine wpS_of_wp ?_
 refine wp_mono (Q := bodyPost Try.prog Try.f21 fun e w' => e = .returned (.tuple #[]) ∧ w' = w) ?_ ?imp
 case imp =>
  intro e a w' h
  have h2 := bodyS_of (c₀ := c₀) (cs := fr) (u' := .returning) (R := fun e u' w' => e = .returned (.tuple #[]) ∧ u' = .returning ∧ w' = w) (fun e w' h => ⟨h.1,rfl,h.2⟩) e a w' h
  cases c₀
  simp_all
 clear hu
 have ht : (#[Value.pointer (some ⟨N1,0,none⟩),.pointer (some ⟨N2,0,none⟩)] ++ ((Array.replicate 17 undef).setIfInBounds 3 .nilIface).setIfInBounds 0 .nilIface) =
   #[.pointer (some ⟨N1,0,none⟩),.pointer (some ⟨N2,0,none⟩),.nilIface,undef,undef,.nilIface,undef,undef,undef,undef,undef,undef,undef,undef,undef,undef,undef,undef,undef] := by rfl
 rw [ht]
 clear ht
 go_wp2_with fail
 exact bodyPost_ret (v := .tuple #[]) (by simp [results,Try.results21,go_sem]) rfl ⟨rfl,rfl⟩
end Go.Proofs.Ytgadkiljnebicaa
