/- Several texts in one. -/
import Derived.Test.YtgadkiljnebicaaD22
import Derived.Test.YtgadkiljnebicaaD21
import Derived.Test.YtgadkiljnebicaaD05
namespace Go.Proofs.Ytgadkiljnebicaa
open Go.Lib (hid)
open Go.RowKit
set_option maxRecDepth 100000
def RP2 {α : Type} (ba : Option Addr) (bl bc : Nat) (n0 : Option Addr) (nm0 : List ByteArray) (W : World) (res : α → Value) (r : Except Int (α × St)) (e : Ending) (w' : World) : Prop :=
 match r with
 | .ok (a,s') => ∃ na nc,e = .returned (.tuple #[stV ba bl bc s'.i s'.n na s'.names.length nc 0,res a]) ∧ Strs w' (.slice na s'.names.length nc) s'.names ∧ Below W.heap.size W w' ∧ (na = n0 ∧ s'.names = nm0 ∨ ∀ b,(Value.slice na s'.names.length nc).ownBlock = some b → W.heap.size ≤ b)
 | .error x => ∃ (i n : Int) (na : Option Addr) (nl nc : Nat) (u : α),e = .returned (.tuple #[stV ba bl bc i n na nl nc x,res u]) ∧ Below W.heap.size W w'
set_option maxHeartbeats 2000000 in
theorem rname_low (ba : Option Addr) (bc : Nat) (bs : List UInt8) (s s1 : St) (na : Option Addr) (nc k : Nat) (w : World) (h : RfAt w ba bc bs s na nc) (hw : wideN bs s = .ok (k,s1)) (hnl : s.names.length ≤ 4096) (hk : k < s.names.length) :
  Calls Try.prog 53 #[stV ba bs.length bc s.i s.n na s.names.length nc 0] w (RP2 ba bs.length bc na s.names w .string (nameP bs s)) := by
 obtain ⟨b,off,rfl,hlb,HCell⟩ : ∃ b off,na = some ⟨b,off,none⟩ ∧ b < w.heap.size ∧ Hid (∀ W,Below w.heap.size w W → W.cell? ⟨b,off + k,none⟩ = some (.string s.names[k])) := by
  obtain ⟨a2,c2,hnv,hl2,hc⟩ := h.nms
  obtain ⟨b,off,ha,hcell⟩ := hc (by omega)
  have ena : na = a2 := by injection hnv
  refine ⟨b,off,ena.trans ha,cell_lt (hcell k hk),fun W hW => (hW.cell (p := ⟨b,off + k,none⟩) (cell_lt (hcell k hk))).trans (hcell k hk)⟩
 have H := hid h
 have hs1 := wide_names _ _ _ _ _ _ hw
 have HNM := hid hs1.1
 have HS1N := hid hs1.2.1
 have hk64 := wideN_lt hw
 have HW := hid hw
 clear h hs1 hw
 have HK := hid (show nameP bs s = .ok (s.names[k],s1) by rw [nameP_eq,HW.out]; unfold nameK; simp only; rw [if_neg (by rw [HNM.out]; omega),if_pos (by rw [HNM.out]; exact hk)]; simp [List.getD,HNM.out,hk])
 have hle : ((k : Int) ≤ (s.names.length : Int)) := by omega
 have hlt : ((k : Int) < (s.names.length : Int)) := by omega
 have hk0 : (0 : Int) ≤ (k : Int) := by omega
 have hYb : ¬ w.heap.size + 1 = b := by omega
 have hwl := wrap_u64_nat s.names.length (by omega)
 go_enter Try.func53,Try.ntmps53
 go_wp2_with fail
 have hXY : ¬ w.heap.size = w.heap.size + 1 := by omega
 have HX1 : Hid (((w.alloc (.cells #[.slice ba bs.length bc,.int .i64 (s.i : Int),.int .i64 (s.n : Int),.slice (some ⟨b,off,none⟩) s.names.length nc,.int .i64 0] 80)).alloc (.cells #[nilV,.int .i64 0,.int .i64 0,nilV,.int .i64 0] 80)).heap[w.heap.size]? = some (.cells #[.slice ba bs.length bc,.int .i64 (s.i : Int),.int .i64 (s.n : Int),.slice (some ⟨b,off,none⟩) s.names.length nc,.int .i64 0] 80 (0,0))) := (Below.heap_alloc _ _ _ (by simp)).trans (heap_new w _)
 have HY1 : Hid (((w.alloc (.cells #[.slice ba bs.length bc,.int .i64 (s.i : Int),.int .i64 (s.n : Int),.slice (some ⟨b,off,none⟩) s.names.length nc,.int .i64 0] 80)).alloc (.cells #[nilV,.int .i64 0,.int .i64 0,nilV,.int .i64 0] 80)).heap[w.heap.size + 1]? = some (.cells #[nilV,.int .i64 0,.int .i64 0,nilV,.int .i64 0] 80 (0,0))) := heap_new_at (by simp)
 have HB1 := hid (((Below.refl w.heap.size w).alloc (Nat.le_refl _) (.cells #[.slice ba bs.length bc,.int .i64 (s.i : Int),.int .i64 (s.n : Int),.slice (some ⟨b,off,none⟩) s.names.length nc,.int .i64 0] 80)).alloc (by simp) (.cells #[nilV,.int .i64 0,.int .i64 0,nilV,.int .i64 0] 80))
 generalize ((w.alloc (.cells #[.slice ba bs.length bc,.int .i64 (s.i : Int),.int .i64 (s.n : Int),.slice (some ⟨b,off,none⟩) s.names.length nc,.int .i64 0] 80)).alloc (.cells #[nilV,.int .i64 0,.int .i64 0,nilV,.int .i64 0] 80)) = w1 at *
 have HRf1 := hid (show RfAt w1 ba bc bs s (some ⟨b,off,none⟩) nc from ⟨H.out.src.below HB1.out,H.out.nms.below HB1.out,H.out.len,H.out.ile,H.out.nle⟩)
 have H1 := rwide_any ba bc bs s (some ⟨b,off,none⟩) nc w1 HRf1.out
 rw [HW.out] at H1
 refine H1.mono ?_
 rintro e w2 ⟨rfl,hb⟩
 clear H1 HRf1
 have HX2 := hid ((hb.block _ (blk_lt HX1.out)).trans HX1.out)
 have HY2 := hid ((hb.block _ (blk_lt HY1.out)).trans HY1.out)
 have HB2 := hid (HB1.out.trans (hb.mono HB1.out.size))
 clear hb HB1 HX1 HY1
 obtain ⟨k0,k1,k2,k3,k4⟩ := FiveAt.of_block HX2.out
 have kf := blk_fz HX2.out
 go_upto_region 2 with fail
 clear k0 k1 k2 k3 k4 kf
 have HX3 := hid (five_set HX2.out (d0 := .slice ba bs.length bc) (d1 := .int .i64 (s1.i : Int)) (d2 := .int .i64 (s1.n : Int)) (d3 := .slice (some ⟨b,off,none⟩) s.names.length nc) (d4 := .int .i64 0))
 have hTs := five_turn w2 (w.heap.size) (.slice ba bs.length bc) (.int .i64 (s1.i : Int)) (.int .i64 (s1.n : Int)) (.slice (some ⟨b,off,none⟩) s.names.length nc) (.int .i64 0)
 have HY3 := hid ((hTs.block (w.heap.size + 1) (blk_lt HY2.out) (by omega)).trans HY2.out)
 have HB3 := hid (HB2.out.trans (hTs.below HB2.out.size (fun i e => by omega)))
 clear hTs HB2 HX2 HY2
 simp only [set5] at HX3 HY3 HB3
 generalize ((((w2.setCell ⟨w.heap.size,0,none⟩ (.slice ba bs.length bc)).setCell ⟨w.heap.size,1,none⟩ (.int .i64 (s1.i : Int))).setCell ⟨w.heap.size,2,none⟩ (.int .i64 (s1.n : Int))).setCell ⟨w.heap.size,3,none⟩ (.slice (some ⟨b,off,none⟩) s.names.length nc)).setCell ⟨w.heap.size,4,none⟩ (.int .i64 0) = w3 at *
 obtain ⟨k0,k1,k2,k3,k4⟩ := FiveAt.of_block HX3.out
 go_wp2_with fail
 refine (rmust_any _ _ _ _ _ _ _ _ 0 true _).mono ?_
 rintro e w4 ⟨rfl,hb⟩
 clear k0 k1 k2 k3 k4
 have HX4 := hid ((hb.block _ (blk_lt HX3.out)).trans HX3.out)
 have HY4 := hid ((hb.block _ (blk_lt HY3.out)).trans HY3.out)
 have HB4 := hid (HB3.out.trans (hb.mono HB3.out.size))
 clear hb HB3 HX3 HY3
 go_upto_region 3 with (refine wpList_store_row rfl 80 (.tmp 1) (.tmp 20) rfl (w.heap.size) #[.slice ba bs.length bc,.int .i64 (s1.i : Int),.int .i64 (s1.n : Int),.slice (some ⟨b,off,none⟩) s.names.length nc,.int .i64 0] rfl rfl 80 #[.slice ba bs.length bc,.int .i64 (s1.i : Int),.int .i64 (s1.n : Int),.slice (some ⟨b,off,none⟩) s.names.length nc,.int .i64 0] HX4.out infoS rfl (by simp [Array.all,Value.oneCell']) ?_)
 have HX5 := hid (setRow_heap w4 (w.heap.size) #[.slice ba bs.length bc,.int .i64 (s1.i : Int),.int .i64 (s1.n : Int),.slice (some ⟨b,off,none⟩) s.names.length nc,.int .i64 0] #[.slice ba bs.length bc,.int .i64 (s1.i : Int),.int .i64 (s1.n : Int),.slice (some ⟨b,off,none⟩) s.names.length nc,.int .i64 0] 80 (0,0) HX4.out)
 have HY5 := hid ((setRow_other w4 (w.heap.size) (w.heap.size + 1) #[.slice ba bs.length bc,.int .i64 (s1.i : Int),.int .i64 (s1.n : Int),.slice (some ⟨b,off,none⟩) s.names.length nc,.int .i64 0] (by omega)).trans HY4.out)
 have HB5 := hid (HB4.out.trans ((setRow_turn w4 (w.heap.size) #[.slice ba bs.length bc,.int .i64 (s1.i : Int),.int .i64 (s1.n : Int),.slice (some ⟨b,off,none⟩) s.names.length nc,.int .i64 0]).below HB4.out.size (fun i e => by omega)))
 clear HB4 HX4 HY4
 generalize w4.setRow (w.heap.size) #[.slice ba bs.length bc,.int .i64 (s1.i : Int),.int .i64 (s1.n : Int),.slice (some ⟨b,off,none⟩) s.names.length nc,.int .i64 0] = w5 at *
 obtain ⟨k0,k1,k2,k3,k4⟩ := FiveAt.of_block HX5.out
 have hx := HCell.out _ HB5.out
 go_wp2_with fail
 obtain ⟨y0,y1,y2,y3,y4⟩ := FiveAt.of_block HY5.out
 have kf := blk_fz HY5.out
 generalize s.names[k] = x at *
 go_region_held3 (fun w' => w'.cell? ⟨w.heap.size,0,none⟩ = some (.slice ba bs.length bc) ∧ w'.cell? ⟨w.heap.size,1,none⟩ = some (.int .i64 (s1.i : Int)) ∧ w'.cell? ⟨w.heap.size,2,none⟩ = some (.int .i64 (s1.n : Int)) ∧ w'.cell? ⟨w.heap.size,3,none⟩ = some (.slice (some ⟨b,off,none⟩) s.names.length nc) ∧ w'.cell? ⟨w.heap.size,4,none⟩ = some (.int .i64 0) ∧ w'.cell? ⟨b,off + k,none⟩ = some (.string x)) (go_keep) (fail)
 rename_i hHeld
 clear hHeld k0 k1 k2 k3 k4 y0 y1 y2 y3 y4 kf hx
 have HY6 := hid (five_set HY5.out (d0 := .slice ba bs.length bc) (d1 := .int .i64 (s1.i : Int)) (d2 := .int .i64 (s1.n : Int)) (d3 := .slice (some ⟨b,off,none⟩) s.names.length nc) (d4 := .int .i64 0))
 have hTs := five_turn w5 (w.heap.size + 1) (.slice ba bs.length bc) (.int .i64 (s1.i : Int)) (.int .i64 (s1.n : Int)) (.slice (some ⟨b,off,none⟩) s.names.length nc) (.int .i64 0)
 have HX6 := hid ((hTs.block (w.heap.size) (blk_lt HX5.out) (by omega)).trans HX5.out)
 have HB6 := hid (HB5.out.trans (hTs.below HB5.out.size (fun i e => by omega)))
 clear hTs HB5 HY5 HX5
 simp only [set5] at HY6 HX6 HB6
 generalize ((((w5.setCell ⟨w.heap.size + 1,0,none⟩ (.slice ba bs.length bc)).setCell ⟨w.heap.size + 1,1,none⟩ (.int .i64 (s1.i : Int))).setCell ⟨w.heap.size + 1,2,none⟩ (.int .i64 (s1.n : Int))).setCell ⟨w.heap.size + 1,3,none⟩ (.slice (some ⟨b,off,none⟩) s.names.length nc)).setCell ⟨w.heap.size + 1,4,none⟩ (.int .i64 0) = w6 at *
 obtain ⟨k0,k1,k2,k3,k4⟩ := FiveAt.of_block HY6.out
 go_wp2_with fail
 exact bodyPost_ret (v := .tuple #[stV ba bs.length bc s1.i s1.n (some ⟨b,off,none⟩) s.names.length nc 0,.string x]) (by simp [results,Try.results53,go_sem,k0,k1,k2,k3,k4]) rfl (by rw [HK.out]; exact ⟨_,nc,by rw [HNM.out],by rw [HNM.out]; exact H.out.nms.below HB6.out.drew,HB6.out.drew,.inl ⟨rfl,HNM.out⟩⟩)
theorem wideN_err {bs : List UInt8} {s : St} {x : Int} (h : wideN bs s = .error x) : x = 72 ∨ x = 73 := by
 have key : ∀ (rest k acc : Nat) (s : St),wideP bs rest k acc s = .error x → x = 72 ∨ x = 73 := by
  intro rest
  induction rest with
  | zero => intro k acc s h; cases h; exact .inr rfl
  | succ rest ih =>
   intro k acc s h
   simp only [wideP] at h
   cases ho : oneP bs s with
   | error e => rw [ho] at h; cases h; exact .inl (oneP_err ho)
   | ok y =>
    rw [ho] at h
    simp only at h
    split at h
    ·cases h; exact .inr rfl
    ·split at h
     ·exact ih _ _ _ h
     ·split at h
      ·cases h; exact .inr rfl
      ·cases h
 exact key 10 0 0 s h
set_option maxHeartbeats 2000000 in
theorem rname_err (ba : Option Addr) (bc : Nat) (bs : List UInt8) (s : St) (na : Option Addr) (nc : Nat) (x : Int) (w : World) (h : RfAt w ba bc bs s na nc) (hw : wideN bs s = .error x) (hnl : s.names.length ≤ 4096) :
  Calls Try.prog 53 #[stV ba bs.length bc s.i s.n na s.names.length nc 0] w (RP2 ba bs.length bc na s.names w .string (nameP bs s)) := by
 have H := hid h
 have hx0 : ¬ x = 0 := by rcases wideN_err hw with rfl | rfl <;> decide
 have HX0 := hid hx0
 have hx1 : (x != 0) = true := bne_iff_ne.2 hx0
 have HK := hid (show nameP bs s = .error x by rw [nameP_eq,hw])
 have HW := hid hw
 clear h hw hx0
 have hwl := wrap_u64_nat s.names.length (by omega)
 go_enter Try.func53,Try.ntmps53
 go_wp2_with fail
 have hXY : ¬ w.heap.size = w.heap.size + 1 := by omega
 have HX1 : Hid (((w.alloc (.cells #[.slice ba bs.length bc,.int .i64 (s.i : Int),.int .i64 (s.n : Int),.slice na s.names.length nc,.int .i64 0] 80)).alloc (.cells #[nilV,.int .i64 0,.int .i64 0,nilV,.int .i64 0] 80)).heap[w.heap.size]? = some (.cells #[.slice ba bs.length bc,.int .i64 (s.i : Int),.int .i64 (s.n : Int),.slice na s.names.length nc,.int .i64 0] 80 (0,0))) := (Below.heap_alloc _ _ _ (by simp)).trans (heap_new w _)
 have HY1 : Hid (((w.alloc (.cells #[.slice ba bs.length bc,.int .i64 (s.i : Int),.int .i64 (s.n : Int),.slice na s.names.length nc,.int .i64 0] 80)).alloc (.cells #[nilV,.int .i64 0,.int .i64 0,nilV,.int .i64 0] 80)).heap[w.heap.size + 1]? = some (.cells #[nilV,.int .i64 0,.int .i64 0,nilV,.int .i64 0] 80 (0,0))) := heap_new_at (by simp)
 have HB1 := hid (((Below.refl w.heap.size w).alloc (Nat.le_refl _) (.cells #[.slice ba bs.length bc,.int .i64 (s.i : Int),.int .i64 (s.n : Int),.slice na s.names.length nc,.int .i64 0] 80)).alloc (by simp) (.cells #[nilV,.int .i64 0,.int .i64 0,nilV,.int .i64 0] 80))
 generalize ((w.alloc (.cells #[.slice ba bs.length bc,.int .i64 (s.i : Int),.int .i64 (s.n : Int),.slice na s.names.length nc,.int .i64 0] 80)).alloc (.cells #[nilV,.int .i64 0,.int .i64 0,nilV,.int .i64 0] 80)) = w1 at *
 have HRf1 := hid (show RfAt w1 ba bc bs s na nc from ⟨H.out.src.below HB1.out,H.out.nms.below HB1.out,H.out.len,H.out.ile,H.out.nle⟩)
 have H1 := rwide_any ba bc bs s na nc w1 HRf1.out
 rw [HW.out] at H1
 refine H1.mono ?_
 rintro e w2 ⟨i',n',u',rfl,⟨q,rfl,hq⟩,hb⟩
 clear H1 HRf1
 have HX2 := hid ((hb.block _ (blk_lt HX1.out)).trans HX1.out)
 have HY2 := hid ((hb.block _ (blk_lt HY1.out)).trans HY1.out)
 have HB2 := hid (HB1.out.trans (hb.mono HB1.out.size))
 clear hb HB1 HX1 HY1
 obtain ⟨k0,k1,k2,k3,k4⟩ := FiveAt.of_block HX2.out
 have kf := blk_fz HX2.out
 go_upto_region 2 with fail
 clear k0 k1 k2 k3 k4 kf
 have HX3 := hid (five_set HX2.out (d0 := .slice ba bs.length bc) (d1 := .int .i64 i') (d2 := .int .i64 n') (d3 := .slice na s.names.length nc) (d4 := .int .i64 x))
 have hTs := five_turn w2 (w.heap.size) (.slice ba bs.length bc) (.int .i64 i') (.int .i64 n') (.slice na s.names.length nc) (.int .i64 x)
 have HY3 := hid ((hTs.block (w.heap.size + 1) (blk_lt HY2.out) (by omega)).trans HY2.out)
 have HB3 := hid (HB2.out.trans (hTs.below HB2.out.size (fun i e => by omega)))
 clear hTs HB2 HX2 HY2
 simp only [set5] at HX3 HY3 HB3
 generalize ((((w2.setCell ⟨w.heap.size,0,none⟩ (.slice ba bs.length bc)).setCell ⟨w.heap.size,1,none⟩ (.int .i64 i')).setCell ⟨w.heap.size,2,none⟩ (.int .i64 n')).setCell ⟨w.heap.size,3,none⟩ (.slice na s.names.length nc)).setCell ⟨w.heap.size,4,none⟩ (.int .i64 x) = w3 at *
 obtain ⟨k0,k1,k2,k3,k4⟩ := FiveAt.of_block HX3.out
 go_wp2_with fail
 refine (rmust_e _ _ _ _ _ _ _ _ x HX0.out _ _).mono ?_
 rintro e w4 ⟨rfl,hb⟩
 clear k0 k1 k2 k3 k4
 have HX4 := hid ((hb.block _ (blk_lt HX3.out)).trans HX3.out)
 have HY4 := hid ((hb.block _ (blk_lt HY3.out)).trans HY3.out)
 have HB4 := hid (HB3.out.trans (hb.mono HB3.out.size))
 clear hb HB3 HX3 HY3
 go_upto_region 3 with (refine wpList_store_row rfl 80 (.tmp 1) (.tmp 20) rfl (w.heap.size) #[.slice ba bs.length bc,.int .i64 i',.int .i64 n',.slice na s.names.length nc,.int .i64 x] rfl rfl 80 #[.slice ba bs.length bc,.int .i64 i',.int .i64 n',.slice na s.names.length nc,.int .i64 x] HX4.out infoS rfl (by simp [Array.all,Value.oneCell']) ?_)
 have HX5 := hid (setRow_heap w4 (w.heap.size) #[.slice ba bs.length bc,.int .i64 i',.int .i64 n',.slice na s.names.length nc,.int .i64 x] #[.slice ba bs.length bc,.int .i64 i',.int .i64 n',.slice na s.names.length nc,.int .i64 x] 80 (0,0) HX4.out)
 have HY5 := hid ((setRow_other w4 (w.heap.size) (w.heap.size + 1) #[.slice ba bs.length bc,.int .i64 i',.int .i64 n',.slice na s.names.length nc,.int .i64 x] (by omega)).trans HY4.out)
 have HB5 := hid (HB4.out.trans ((setRow_turn w4 (w.heap.size) #[.slice ba bs.length bc,.int .i64 i',.int .i64 n',.slice na s.names.length nc,.int .i64 x]).below HB4.out.size (fun i e => by omega)))
 clear HB4 HX4 HY4
 generalize w4.setRow (w.heap.size) #[.slice ba bs.length bc,.int .i64 i',.int .i64 n',.slice na s.names.length nc,.int .i64 x] = w5 at *
 obtain ⟨k0,k1,k2,k3,k4⟩ := FiveAt.of_block HX5.out
 go_wp2_with (refine wpList_store_row rfl 80 (.tmp 2) (.tmp 24) rfl (w.heap.size + 1) #[.slice ba bs.length bc,.int .i64 i',.int .i64 n',.slice na s.names.length nc,.int .i64 x] rfl rfl 80 #[nilV,.int .i64 0,.int .i64 0,nilV,.int .i64 0] HY5.out infoS rfl (by simp [Array.all,Value.oneCell']) ?_)
 have HY6 := hid (setRow_heap w5 (w.heap.size + 1) #[nilV,.int .i64 0,.int .i64 0,nilV,.int .i64 0] #[.slice ba bs.length bc,.int .i64 i',.int .i64 n',.slice na s.names.length nc,.int .i64 x] 80 (0,0) HY5.out)
 have HX6 := hid ((setRow_other w5 (w.heap.size + 1) (w.heap.size) #[.slice ba bs.length bc,.int .i64 i',.int .i64 n',.slice na s.names.length nc,.int .i64 x] (by omega)).trans HX5.out)
 have HB6 := hid (HB5.out.trans ((setRow_turn w5 (w.heap.size + 1) #[.slice ba bs.length bc,.int .i64 i',.int .i64 n',.slice na s.names.length nc,.int .i64 x]).below HB5.out.size (fun i e => by omega)))
 clear HB5 HY5 HX5
 generalize w5.setRow (w.heap.size + 1) #[.slice ba bs.length bc,.int .i64 i',.int .i64 n',.slice na s.names.length nc,.int .i64 x] = w6 at *
 clear k0 k1 k2 k3 k4
 go_wp2_with fail
 obtain ⟨k0,k1,k2,k3,k4⟩ := FiveAt.of_block HY6.out
 exact bodyPost_ret (v := .tuple #[stV ba bs.length bc i' n' na s.names.length nc x,.string ⟨#[]⟩]) (by simp [results,Try.results53,go_sem,k0,k1,k2,k3,k4]) rfl (by rw [HK.out]; exact ⟨_,_,_,_,_,⟨#[]⟩,rfl,HB6.out⟩)
set_option maxHeartbeats 2000000 in
theorem rname_high (ba : Option Addr) (bc : Nat) (bs : List UInt8) (s s1 : St) (na : Option Addr) (nc k : Nat) (w : World) (h : RfAt w ba bc bs s na nc) (hw : wideN bs s = .ok (k,s1)) (hnl : s.names.length ≤ 4096) (hk : s.names.length < k) :
  Calls Try.prog 53 #[stV ba bs.length bc s.i s.n na s.names.length nc 0] w (RP2 ba bs.length bc na s.names w .string (nameP bs s)) := by
 have H := hid h
 have hs1 := wide_names _ _ _ _ _ _ hw
 have HNM := hid hs1.1
 have HS1N := hid hs1.2.1
 have hk64 := wideN_lt hw
 have HW := hid hw
 clear h hs1 hw
 have HK := hid (show nameP bs s = .error 73 by rw [nameP_eq,HW.out]; unfold nameK; simp only; rw [if_pos (by rw [HNM.out]; exact hk)])
 have hle : decide (k ≤ s.names.length) = false := decide_eq_false (by omega)
 have hle2 : decide ((k : Int) ≤ (s.names.length : Int)) = false := decide_eq_false (by omega)
 have hwl := wrap_u64_nat s.names.length (by omega)
 go_enter Try.func53,Try.ntmps53
 go_wp2_with fail
 have hXY : ¬ w.heap.size = w.heap.size + 1 := by omega
 have HX1 : Hid (((w.alloc (.cells #[.slice ba bs.length bc,.int .i64 (s.i : Int),.int .i64 (s.n : Int),.slice na s.names.length nc,.int .i64 0] 80)).alloc (.cells #[nilV,.int .i64 0,.int .i64 0,nilV,.int .i64 0] 80)).heap[w.heap.size]? = some (.cells #[.slice ba bs.length bc,.int .i64 (s.i : Int),.int .i64 (s.n : Int),.slice na s.names.length nc,.int .i64 0] 80 (0,0))) := (Below.heap_alloc _ _ _ (by simp)).trans (heap_new w _)
 have HY1 : Hid (((w.alloc (.cells #[.slice ba bs.length bc,.int .i64 (s.i : Int),.int .i64 (s.n : Int),.slice na s.names.length nc,.int .i64 0] 80)).alloc (.cells #[nilV,.int .i64 0,.int .i64 0,nilV,.int .i64 0] 80)).heap[w.heap.size + 1]? = some (.cells #[nilV,.int .i64 0,.int .i64 0,nilV,.int .i64 0] 80 (0,0))) := heap_new_at (by simp)
 have HB1 := hid (((Below.refl w.heap.size w).alloc (Nat.le_refl _) (.cells #[.slice ba bs.length bc,.int .i64 (s.i : Int),.int .i64 (s.n : Int),.slice na s.names.length nc,.int .i64 0] 80)).alloc (by simp) (.cells #[nilV,.int .i64 0,.int .i64 0,nilV,.int .i64 0] 80))
 generalize ((w.alloc (.cells #[.slice ba bs.length bc,.int .i64 (s.i : Int),.int .i64 (s.n : Int),.slice na s.names.length nc,.int .i64 0] 80)).alloc (.cells #[nilV,.int .i64 0,.int .i64 0,nilV,.int .i64 0] 80)) = w1 at *
 have HRf1 := hid (show RfAt w1 ba bc bs s na nc from ⟨H.out.src.below HB1.out,H.out.nms.below HB1.out,H.out.len,H.out.ile,H.out.nle⟩)
 have H1 := rwide_any ba bc bs s na nc w1 HRf1.out
 rw [HW.out] at H1
 refine H1.mono ?_
 rintro e w2 ⟨rfl,hb⟩
 clear H1 HRf1
 have HX2 := hid ((hb.block _ (blk_lt HX1.out)).trans HX1.out)
 have HY2 := hid ((hb.block _ (blk_lt HY1.out)).trans HY1.out)
 have HB2 := hid (HB1.out.trans (hb.mono HB1.out.size))
 clear hb HB1 HX1 HY1
 obtain ⟨k0,k1,k2,k3,k4⟩ := FiveAt.of_block HX2.out
 have kf := blk_fz HX2.out
 go_upto_region 2 with fail
 clear k0 k1 k2 k3 k4 kf
 have HX3 := hid (five_set HX2.out (d0 := .slice ba bs.length bc) (d1 := .int .i64 (s1.i : Int)) (d2 := .int .i64 (s1.n : Int)) (d3 := .slice na s.names.length nc) (d4 := .int .i64 0))
 have hTs := five_turn w2 (w.heap.size) (.slice ba bs.length bc) (.int .i64 (s1.i : Int)) (.int .i64 (s1.n : Int)) (.slice na s.names.length nc) (.int .i64 0)
 have HY3 := hid ((hTs.block (w.heap.size + 1) (blk_lt HY2.out) (by omega)).trans HY2.out)
 have HB3 := hid (HB2.out.trans (hTs.below HB2.out.size (fun i e => by omega)))
 clear hTs HB2 HX2 HY2
 simp only [set5] at HX3 HY3 HB3
 generalize ((((w2.setCell ⟨w.heap.size,0,none⟩ (.slice ba bs.length bc)).setCell ⟨w.heap.size,1,none⟩ (.int .i64 (s1.i : Int))).setCell ⟨w.heap.size,2,none⟩ (.int .i64 (s1.n : Int))).setCell ⟨w.heap.size,3,none⟩ (.slice na s.names.length nc)).setCell ⟨w.heap.size,4,none⟩ (.int .i64 0) = w3 at *
 obtain ⟨k0,k1,k2,k3,k4⟩ := FiveAt.of_block HX3.out
 go_wp2_with fail
 refine (rmust_any _ _ _ _ _ _ _ _ 0 false _).mono ?_
 rintro e w4 ⟨rfl,hb⟩
 clear k0 k1 k2 k3 k4
 have HX4 := hid ((hb.block _ (blk_lt HX3.out)).trans HX3.out)
 have HY4 := hid ((hb.block _ (blk_lt HY3.out)).trans HY3.out)
 have HB4 := hid (HB3.out.trans (hb.mono HB3.out.size))
 clear hb HB3 HX3 HY3
 go_upto_region 3 with (refine wpList_store_row rfl 80 (.tmp 1) (.tmp 20) rfl (w.heap.size) #[.slice ba bs.length bc,.int .i64 (s1.i : Int),.int .i64 (s1.n : Int),.slice na s.names.length nc,.int .i64 73] rfl rfl 80 #[.slice ba bs.length bc,.int .i64 (s1.i : Int),.int .i64 (s1.n : Int),.slice na s.names.length nc,.int .i64 0] HX4.out infoS rfl (by simp [Array.all,Value.oneCell']) ?_)
 have HX5 := hid (setRow_heap w4 (w.heap.size) #[.slice ba bs.length bc,.int .i64 (s1.i : Int),.int .i64 (s1.n : Int),.slice na s.names.length nc,.int .i64 0] #[.slice ba bs.length bc,.int .i64 (s1.i : Int),.int .i64 (s1.n : Int),.slice na s.names.length nc,.int .i64 73] 80 (0,0) HX4.out)
 have HY5 := hid ((setRow_other w4 (w.heap.size) (w.heap.size + 1) #[.slice ba bs.length bc,.int .i64 (s1.i : Int),.int .i64 (s1.n : Int),.slice na s.names.length nc,.int .i64 73] (by omega)).trans HY4.out)
 have HB5 := hid (HB4.out.trans ((setRow_turn w4 (w.heap.size) #[.slice ba bs.length bc,.int .i64 (s1.i : Int),.int .i64 (s1.n : Int),.slice na s.names.length nc,.int .i64 73]).below HB4.out.size (fun i e => by omega)))
 clear HB4 HX4 HY4
 generalize w4.setRow (w.heap.size) #[.slice ba bs.length bc,.int .i64 (s1.i : Int),.int .i64 (s1.n : Int),.slice na s.names.length nc,.int .i64 73] = w5 at *
 obtain ⟨k0,k1,k2,k3,k4⟩ := FiveAt.of_block HX5.out
 go_wp2_with (refine wpList_store_row rfl 80 (.tmp 2) (.tmp 24) rfl (w.heap.size + 1) #[.slice ba bs.length bc,.int .i64 (s1.i : Int),.int .i64 (s1.n : Int),.slice na s.names.length nc,.int .i64 73] rfl rfl 80 #[nilV,.int .i64 0,.int .i64 0,nilV,.int .i64 0] HY5.out infoS rfl (by simp [Array.all,Value.oneCell']) ?_)
 have HY6 := hid (setRow_heap w5 (w.heap.size + 1) #[nilV,.int .i64 0,.int .i64 0,nilV,.int .i64 0] #[.slice ba bs.length bc,.int .i64 (s1.i : Int),.int .i64 (s1.n : Int),.slice na s.names.length nc,.int .i64 73] 80 (0,0) HY5.out)
 have HX6 := hid ((setRow_other w5 (w.heap.size + 1) (w.heap.size) #[.slice ba bs.length bc,.int .i64 (s1.i : Int),.int .i64 (s1.n : Int),.slice na s.names.length nc,.int .i64 73] (by omega)).trans HX5.out)
 have HB6 := hid (HB5.out.trans ((setRow_turn w5 (w.heap.size + 1) #[.slice ba bs.length bc,.int .i64 (s1.i : Int),.int .i64 (s1.n : Int),.slice na s.names.length nc,.int .i64 73]).below HB5.out.size (fun i e => by omega)))
 clear HB5 HY5 HX5
 generalize w5.setRow (w.heap.size + 1) #[.slice ba bs.length bc,.int .i64 (s1.i : Int),.int .i64 (s1.n : Int),.slice na s.names.length nc,.int .i64 73] = w6 at *
 clear k0 k1 k2 k3 k4
 go_wp2_with fail
 obtain ⟨k0,k1,k2,k3,k4⟩ := FiveAt.of_block HY6.out
 exact bodyPost_ret (v := .tuple #[stV ba bs.length bc s1.i s1.n na s.names.length nc 73,.string ⟨#[]⟩]) (by simp [results,Try.results53,go_sem,k0,k1,k2,k3,k4]) rfl (by rw [HK.out]; exact ⟨_,_,_,_,_,⟨#[]⟩,rfl,HB6.out⟩)
end Go.Proofs.Ytgadkiljnebicaa
