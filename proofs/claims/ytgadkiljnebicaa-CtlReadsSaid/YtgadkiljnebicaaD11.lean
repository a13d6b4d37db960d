/- Several texts in one. -/
import Derived.Test.YtgadkiljnebicaaD10
import Derived.Test.YtgadkiljnebicaaD06
import Derived.Test.YtgadkiljnebicaaD05
import Derived.Laws.BitsLemmas
namespace Go.Proofs.Ytgadkiljnebicaa
open Go.Lib (hid)
open Go.RowKit
set_option maxRecDepth 100000
attribute [local go_sem] run_store_complex run_store_func' run_store_nilFunc'
set_option maxHeartbeats 1000000 in
theorem check_of (k n node boot idn : Int) (re im : Nat) (s : ByteArray) (ba : Option Addr) (bn bc : Nat) (la : Option Addr) (ll lc : Nat) (r : Int) (w : World)
  (hpart : ∀ p w1,Below w.heap.size w w1 → w.heap.size ≤ p → LkAt w1 p 0 → Calls Try.prog 46 #[.pointer (some ⟨p,0,none⟩),.agg #[.int .i64 k,.int .i64 n,.complex .f64 re im,.string s,.int .i64 node,.int .u32 boot,.int .u64 idn,.slice ba bn bc,.slice la ll lc],.int .i64 1] w1 fun e w' => e = .returned (.int .i64 r) ∧ Turn (fun i => i = p) w1 w') :
  Calls Try.prog 27 #[.agg #[.int .i64 k,.int .i64 n,.complex .f64 re im,.string s,.int .i64 node,.int .u32 boot,.int .u64 idn,.slice ba bn bc,.slice la ll lc]] w (RB w (.int .i64 r)) := by
 have HPart := hid hpart
 have hi59 : (Try.prog.info? 111).map (·.size) = some (kL 0).size := by kernel_rfl
 have hall : (kL 0).all (·.oneCell') = true := by kernel_rfl
 clear hpart
 go_enter Try.func27,Try.ntmps27
 go_wp2_with fail
 refine (kinds_any _).mono ?_
 rintro e w1 ⟨rfl,hb1⟩
 have HN1 := hid (NineAt.block (nine_new w k n re im s node boot idn (.slice ba bn bc) (.slice la ll lc) 31) (hb1.block _ (by simp)))
 have HB1 := hid (((Below.refl w.heap.size w).alloc (Nat.le_refl _) _).trans (hb1.mono (by simp)))
 have hs1 : w.heap.size < w1.heap.size := by have := hb1.size; simp at this; omega
 clear hb1
 obtain ⟨k0,k1,k2,k3,k4,k5,k6,k7,k8⟩ := HN1.out
 go_wp2_with (refine wpList_store_row rfl 111 (.tmp 3) (.tmp 5) rfl w1.heap.size (kL 0) rfl rfl 111 #[.int .i64 0,.nilFunc,.nilFunc,.nilFunc,.nilFunc,.nilFunc,.nilFunc,.nilFunc,.nilFunc,.nilFunc,.nilFunc,.nilFunc,.nilFunc,.nilFunc,.nilFunc,.nilFunc,.nilFunc,.nilFunc,.nilFunc] (heap_new _ _) hi59 rfl hall ?_; rw [setRow_new])
 refine (HPart.out w1.heap.size _ (HB1.out.alloc (by omega) _) (by omega) (heap_new w1 _)).mono ?_
 rintro e w2 ⟨rfl,ht⟩
 have hb2 : Below w.heap.size w1 w2 := ((Below.refl w.heap.size w1).alloc (by omega) (.cells (kL 0) 111)).trans (ht.below (by simp; omega) (fun i e => by omega))
 have HB2 := hid (HB1.out.trans hb2)
 clear ht hb2 k0 k1 k2 k3 k4 k5 k6 k7 k8
 go_wp2_with fail
 go_ret
 exact ⟨rfl,HB2.out⟩
theorem check_good (t : Tm) (ht : GoodT 24 t) (hsz : sizeT t ≤ 4096) (F : Nat → Prop) (c : Array Value) (w : World) (hrep : Rep w F t c) (hF : ∀ b,F b → b < w.heap.size) : Calls Try.prog 27 #[.agg c] w (RB w (.int .i64 0)) := by
 obtain ⟨h,l⟩ := t
 have hrep' := hrep
 obtain ⟨bv,lv,rfl,hb,vs,hlv,hreps⟩ := hrep
 obtain ⟨ba,bc,rfl⟩ := row_slice hb.1
 obtain ⟨la,lc,rfl⟩ := row_slice hlv.1
 refine check_of _ _ _ _ _ _ _ _ _ _ _ _ _ _ _ w fun p w1 hb1 hp1 hL => ?_
 refine (look_good 24 _ (Nat.le_refl _) ht F _ p 0 w1 hL (Rep.keep (fun b _ hb => hb1.block b hb) _ _ hrep') (fun b e => by have := hF b e; omega) (by omega) 1 rfl).mono ?_
 rintro e w' ⟨h1,_,h3⟩
 exact ⟨h1,h3⟩
theorem check_id (k node boot idn : Int) (hk : k = 4 ∨ k = 5) (w : World) : Calls Try.prog 27 #[vI k node boot idn] w (RB w (.int .i64 (if idOk node boot idn = true then 0 else 24))) := by
 refine check_of _ _ _ _ _ _ _ _ _ _ _ _ _ _ _ w fun p w1 hb1 hp1 hL => ?_
 cases hd : idOk node boot idn with
 | true =>
  rcases hk with rfl | rfl
  ·refine (lk_walk 4 67 64 0 node boot idn 0 0 ⟨#[]⟩ none 0 0 none 0 [] [] 1 (fun _ => False) p 0 w1 (by decide) (by decide) (fun _ => rfl) (fun _ => rfl) (enters Try.func67 (by kernel_rfl) (by kernel_rfl)) (enters Try.func64 (by kernel_rfl) (by kernel_rfl)) (fun w => bare4 4 node boot idn w) (fun w => by have := good2 4 node boot idn w; rw [hd] at this; exact this) (by simp) (by decide) (by decide) (by decide) hL (Row.nil _ _ _ _) rfl (by simp)).mono ?_
   rintro e w' ⟨h1,_,h3⟩
   exact ⟨h1,h3⟩
  ·refine (lk_walk 5 67 64 0 node boot idn 0 0 ⟨#[]⟩ none 0 0 none 0 [] [] 1 (fun _ => False) p 0 w1 (by decide) (by decide) (fun _ => rfl) (fun _ => rfl) (enters Try.func67 (by kernel_rfl) (by kernel_rfl)) (enters Try.func64 (by kernel_rfl) (by kernel_rfl)) (fun w => bare4 5 node boot idn w) (fun w => by have := good2 5 node boot idn w; rw [hd] at this; exact this) (by simp) (by decide) (by decide) (by decide) hL (Row.nil _ _ _ _) rfl (by simp)).mono ?_
   rintro e w' ⟨h1,_,h3⟩
   exact ⟨h1,h3⟩
 | false =>
  rcases hk with rfl | rfl
  ·exact lk_bad 4 67 64 0 node boot idn 0 0 ⟨#[]⟩ none 0 0 none 0 [] 1 p 0 w1 (by decide) (by decide) (fun _ => rfl) (fun _ => rfl) (enters Try.func67 (by kernel_rfl) (by kernel_rfl)) (enters Try.func64 (by kernel_rfl) (by kernel_rfl)) (fun w => bare4 4 node boot idn w) (fun w => by have := good2 4 node boot idn w; rw [hd] at this; exact this) (by decide) (by decide) hL
  ·exact lk_bad 5 67 64 0 node boot idn 0 0 ⟨#[]⟩ none 0 0 none 0 [] 1 p 0 w1 (by decide) (by decide) (fun _ => rfl) (fun _ => rfl) (enters Try.func67 (by kernel_rfl) (by kernel_rfl)) (enters Try.func64 (by kernel_rfl) (by kernel_rfl)) (fun w => bare4 5 node boot idn w) (fun w => by have := good2 5 node boot idn w; rw [hd] at this; exact this) (by decide) (by decide) hL
end Go.Proofs.Ytgadkiljnebicaa
namespace Go.Proofs.Ytgadkiljnebicaa
open Go.Lib (hid)
open Go.RowKit
set_option maxRecDepth 100000
attribute [local go_sem] run_store_complex
set_option maxHeartbeats 2000000 in
theorem more_good (h : Hd) (l : List Tm) (hd : HdOk h l) (ba : Option Addr) (bc : Nat) (la : Option Addr) (lc : Nat) (w : World) : Calls Try.prog 82 #[.agg (hdC h (.slice ba h.b.length bc) (.slice la l.length lc))] w (RB w (.bool false)) := by
 cases hd with
 | int n hn =>
  clear hn
  cases e1 : (n != 0)
  all_goals
   go_enter Try.func82,Try.ntmps82
   go_wp2_with fail
   go_ret
   exact ⟨rfl,(Below.refl w.heap.size w).alloc (Nat.le_refl _) _⟩
 | cx p q hp hq hf =>
  clear hp hq hf
  go_enter Try.func82,Try.ntmps82
  go_wp2
  all_goals
   go_ret
   exact ⟨rfl,(Below.refl w.heap.size w).alloc (Nat.le_refl _) _⟩
 | atom s hn =>
  clear hn
  go_enter Try.func82,Try.ntmps82
  go_wp2
  all_goals
   go_ret
   exact ⟨rfl,(Below.refl w.heap.size w).alloc (Nat.le_refl _) _⟩
 | id k node boot idn hk _ _ _ hn =>
  have h1 : 1 ≤ (node : Int) := by simp [idOk] at hn; omega
  have e1 : ((node : Int) != 0) = true := by rw [bne_iff_ne]; omega
  clear hn
  rcases hk with rfl | rfl
  all_goals
   go_enter Try.func82,Try.ntmps82
   go_wp2
   go_ret
   exact ⟨rfl,(Below.refl w.heap.size w).alloc (Nat.le_refl _) _⟩
 | list k _ hk hl2 =>
  by_cases h0 : 0 < l.length
  ·rcases hk with rfl | rfl
   all_goals
    go_enter Try.func82,Try.ntmps82
    go_wp2
    go_ret
    exact ⟨rfl,(Below.refl w.heap.size w).alloc (Nat.le_refl _) _⟩
  ·have e0 : l.length = 0 := by omega
   rw [e0]
   rcases hk with rfl | rfl
   all_goals
    go_enter Try.func82,Try.ntmps82
    go_wp2
    go_ret
    exact ⟨rfl,(Below.refl w.heap.size w).alloc (Nat.le_refl _) _⟩
 | bytes b =>
  by_cases h0 : 0 < b.length
  ·have h0i : (0 : Int) < (b.length : Int) := by omega
   go_enter Try.func82,Try.ntmps82
   go_wp2
   go_ret
   exact ⟨rfl,(Below.refl w.heap.size w).alloc (Nat.le_refl _) _⟩
  ·have e0 : b.length = 0 := by omega
   show Calls _ _ #[.agg (hdC { kind := 8,b := b } (.slice ba b.length bc) (.slice la 0 lc))] _ _
   rw [e0]
   go_enter Try.func82,Try.ntmps82
   go_wp2
   go_ret
   exact ⟨rfl,(Below.refl w.heap.size w).alloc (Nat.le_refl _) _⟩
end Go.Proofs.Ytgadkiljnebicaa
namespace Go.Proofs.Ytgadkiljnebicaa
open Go.Lib (hid)
open Go.RowKit
set_option maxRecDepth 100000
def wwRel (B Wb p m : Nat) (v0 : Value) (a0 : Option Addr) (c0 : Nat) (W : World) (out : List UInt8) (n : Nat) (names : List ByteArray) (t1 : Value) (wr : World) : Prop :=
 ∃ (f k : Nat) (o2 : List UInt8) (v : Value) (a : Option Addr) (c : Nat),t1 = .int .u64 k ∧ 0 < f ∧ k < 128 ^ f ∧ k < 18446744073709551616 ∧ o2 ++ viB f k = out ++ wideB n ∧ WrStep B Wb p m v0 a0 c0 out W v a c o2 names wr
set_option maxHeartbeats 1000000 in
theorem wwide_any (B Wb p m : Nat) (v : Value) (a : Option Addr) (c : Nat) (out : List UInt8) (names : List ByteArray) (n : Nat) (hn : n < 18446744073709551616) (w : World) (h : WrAt B Wb p m v a c out names w) (hlen : out.length + 10 ≤ 1000000000) :
  Calls Try.prog 55 #[.pointer (some ⟨Wb,0,none⟩),.int .u64 (n : Nat)] w (WrPost B Wb p m v a c out w (out ++ wideB n) names) := by
 have H := hid h
 have HLn := hid hlen
 have HN := hid hn
 obtain ⟨i0,hi,hz0,hz1,hz2⟩ := info_parts infoU8
 have X1 := hid hi
 have X2 := hid hz0
 have X3 := hid hz1
 have X4 := hid hz2
 clear h hi hz0 hz1 hz2 hlen hn
 go_enter Try.func55,Try.ntmps55
 go_wp2_with fail
 go_loopw [1] (fun t1 wr => wwRel B Wb p m v a c w out n names t1 wr) (fun t1 _ => (intOf t1).toNat)
 case atStart => exact ⟨10,n,out,v,a,c,rfl,by decide,by have := HN.out; omega,HN.out,rfl,H.out.stay (Below.refl _ _)⟩
 case round =>
  obtain ⟨f,k,o2,v2,a2,c2,rfl,hf,hk,hk64,he,hS⟩ := hrel
  have hW := hS.wr
  obtain ⟨f,rfl⟩ : ∃ g,f = g + 1 := ⟨f - 1,by omega⟩
  have HE := hid he
  have HW := hid hW
  have HS := hid hS
  have HK := hid hk
  have hol : o2.length ≤ out.length + 10 := by
   have h1 := congrArg List.length he
   have h2 := wideB_len n
   simp only [List.length_append] at h1
   omega
  have HOl := hid hol
  have k0 := hW.c0
  have hBl := hid hW.bl
  clear he hW hS hk hol hf
  by_cases hlt : 127 < k
  ·have hlI : (127 : Int) < (k : Int) := by omega
   have hw8 := wrap_u8 k
   have hor := or128 (k % 256) (Nat.mod_lt _ (by decide))
   rw [show k % 256 % 128 + 128 = k % 128 + 128 by omega] at hor
   rw [show (((k % 256 : Nat)) : Int) = (k : Int) % 256 by omega] at hor
   have hxl : k % 128 + 128 < 256 := by omega
   obtain ⟨x,hx⟩ : ∃ x : Nat,k % 128 + 128 = x := ⟨_,rfl⟩
   rw [hx] at hor hxl
   have HCb := hid (show [UInt8.ofNat x].map cellB = [.int .u8 (x : Int)] by show [Value.int .u8 _] = _; rw [ofNat_toNat,Nat.mod_eq_of_lt (by omega)])
   have HXx := hid hx
   clear hx
   have kf := HW.out.fz 0
   have hwl := HW.out.wl
   have HM1 := hid (show o2.length + 1 ≤ maxLen by have := HOl.out; have := HLn.out; unfold maxLen; omega)
   have HM2 := hid (show (o2.length + 1) * 1 ≤ 140737488355328 by have := HOl.out; have := HLn.out; omega)
   have HM3 := hid (show ∀ o,B ≤ (wr.alloc o).heap.size from fun o => by have := hBl.out; simp; omega)
   go_wp2_with (at_builtin; refine wpList_app _ rfl (.tmp 10) (.tmp 14) 22 22 rfl B 5 i0 (.int .u8 0) 1 1 Try.underlying22 X1.out X2.out X3.out X4.out rfl (by decide) _ _ _ rfl (HW.out.row.alloc _) _ 1 [.int .u8 (x : Int)] rfl (src_one _ Try.underlying22 _ _ rfl) HM1.out HM2.out (HM3.out _) ?_; intro a4 c4 w4 ho4 hg4 _ hl4; have HA := hid (HW.out.app ((Below.refl _ wr).alloc (Nat.le_refl _) _) (news := [UInt8.ofNat x]) rfl hg4 (by rw [HCb.out]; exact ho4) hl4); have K4 := kept_cell _ k0 kf hg4 (fun e => (HW.out.far Wb e).1 rfl); obtain ⟨y4,z4⟩ := K4; clear ho4 hg4 hl4)
   clear y4 z4 k0 kf hw8 hor
   go_round
   case rel =>
    refine ⟨f,k / 128,o2 ++ [UInt8.ofNat x],v2,a4,c4,by go_num,?_,?_,by omega,?_,HS.out.trans HA.out⟩
    ·rcases Nat.eq_zero_or_pos f with rfl | hp
     ·have := HK.out; omega
     ·exact hp
    ·have := HK.out
     rw [Nat.pow_succ] at this
     omega
    ·have := HE.out
     rw [viB,if_pos hlt,HXx.out] at this
     rw [List.append_assoc]
     exact this
   case measure => simp [intOf]; omega
  ·have hlI : ¬ (127 : Int) < (k : Int) := by omega
   have hd : decide ((127 : Int) < (k : Int)) = false := decide_eq_false hlI
   have hw8 : IntKind.u8.wrap (k : Int) = (k : Int) := by rw [wrap_u8]; omega
   have HCb := hid (show [UInt8.ofNat k].map cellB = [.int .u8 (k : Int)] by show [Value.int .u8 _] = _; rw [ofNat_toNat,Nat.mod_eq_of_lt (by omega)])
   have kf := HW.out.fz 0
   have hwl := HW.out.wl
   have HM1 := hid (show o2.length + 1 ≤ maxLen by have := HOl.out; have := HLn.out; unfold maxLen; omega)
   have HM2 := hid (show (o2.length + 1) * 1 ≤ 140737488355328 by have := HOl.out; have := HLn.out; omega)
   have HM3 := hid (show ∀ o,B ≤ (wr.alloc o).heap.size from fun o => by have := hBl.out; simp; omega)
   go_wp2_with (at_builtin; refine wpList_app _ rfl (.tmp 24) (.tmp 27) 22 22 rfl B 5 i0 (.int .u8 0) 1 1 Try.underlying22 X1.out X2.out X3.out X4.out rfl (by decide) _ _ _ rfl (HW.out.row.alloc _) _ 1 [.int .u8 (k : Int)] rfl (src_one _ Try.underlying22 _ _ rfl) HM1.out HM2.out (HM3.out _) ?_; intro a4 c4 w4 ho4 hg4 _ hl4; have HA := hid (HW.out.app ((Below.refl _ wr).alloc (Nat.le_refl _) _) (news := [UInt8.ofNat k]) rfl hg4 (by rw [HCb.out]; exact ho4) hl4); have K4 := kept_cell _ k0 kf hg4 (fun e => (HW.out.far Wb e).1 rfl); obtain ⟨y4,z4⟩ := K4; clear ho4 hg4 hl4)
   go_end0
   refine ⟨rfl,v2,a4,c4,HS.out.trans ?_⟩
   have := HE.out
   rw [viB,if_neg hlt] at this
   rw [← this]
   exact HA.out
end Go.Proofs.Ytgadkiljnebicaa
namespace Go.Proofs.Ytgadkiljnebicaa
open Go.Lib (hid)
open Go.RowKit
set_option maxRecDepth 100000
attribute [local go_sem] run_store_complex
theorem shaped_cases (k : Int) : k = 8 ∨ k = 10 ∨ k = 11 ∨ ((k == 8) = false ∧ (k == 10) = false ∧ (k == 11) = false ∧ (k != 8) = true ∧ (k != 10) = true ∧ (k != 11) = true) := by
 by_cases h8 : k = 8
 ·exact .inl h8
 by_cases h10 : k = 10
 ·exact .inr (.inl h10)
 by_cases h11 : k = 11
 ·exact .inr (.inr (.inl h11))
 have e8 : (k == 8) = false := beq_eq_false_iff_ne.2 h8
 have e10 : (k == 10) = false := beq_eq_false_iff_ne.2 h10
 have e11 : (k == 11) = false := beq_eq_false_iff_ne.2 h11
 exact .inr (.inr (.inr ⟨e8,e10,e11,by rw [bne,e8]; rfl,by rw [bne,e10]; rfl,by rw [bne,e11]; rfl⟩))
set_option maxHeartbeats 4000000 in
theorem shapedD_any (k : Int) (t : Tm) (F : Nat → Prop) (c : Array Value) (w : World) (hrep : Rep w F t c) (hl : t.l.length ≤ 1000000) : Calls Try.prog 36 #[.int .i64 k,.agg c] w (RB w (.bool (shapedB k t))) := by
 obtain ⟨h,l⟩ := t
 obtain ⟨bv,lv,rfl,hb,vs,hlv,hreps⟩ := hrep
 have HP := hid hb
 clear hb
 have hll : l.length ≤ 1000000 := hl
 clear hl
 by_cases h6 : h.kind = 6
 ·have c6 : (h.kind == 6) = true := by simpa using h6
  have c3 : (h.kind == 3) = false := by rw [h6]; rfl
  have H6 := hid h6
  by_cases h2 : l.length = 2
  ·match l,h2 with
   | [a,b],_ =>
   obtain ⟨g,cap,rfl,hFg,ha,bva,pva,_,⟨la,ea⟩,na⟩ := hlv.nine hreps (i := 0) (by simp)
   obtain ⟨g',cap',e',_,hb',bvb,pvb,_,⟨lb,eb⟩,nb⟩ := hlv.nine hreps (i := 1) (by simp)
   injection e' with e1 e2 e3
   injection e1 with e1
   injection e1 with e1
   subst e1
   have m1 : w.cell? ⟨g,0,none⟩ = some (.int .i64 ha.kind) := na.1
   have m2 : w.cell? ⟨g,9,none⟩ = some (.int .i64 hb'.kind) := nb.1
   have hg : g < w.heap.size := cell_lt m1
   have hp : ∀ k,pairB k (.mk h [a,b]) = (ha.kind == 3 && hb'.kind == k) := by
    intro k
    have ea' : a.hd = ha := by rw [show a = .mk ha la from ea]; rfl
    have eb' : b.hd = hb' := by rw [show b = .mk hb' lb from eb]; rfl
    have h6' : (Tm.mk h [a,b]).hd.kind = 6 := H6.out
    simp only [pairB,Tm.l,ea',eb',h6',true_and]
    rw [Bool.eq_iff_iff]
    simp
   have hq : shapedB k (.mk h [a,b]) = if k = 8 then (ha.kind == 3 && hb'.kind == 7) else if k = 10 then (ha.kind == 3 && hb'.kind == 5) else if k = 11 then false else true := by
    unfold shapedB
    simp only [hp]
    rw [show decide ((Tm.mk h [a,b]).hd.kind = 3) = false from decide_eq_false (by show ¬ h.kind = 3; omega)]
   have n1 : (w.alloc (.cells (hdC h bv (.slice (some ⟨g,0,none⟩) 2 cap)) 31)).cell? ⟨g,0,none⟩ = some (.int .i64 ha.kind) := by
    rw [World.cell?_of_block (w := w) (((Below.refl w.heap.size w).alloc (Nat.le_refl _) _).block g hg)]; exact m1
   have n2 : (w.alloc (.cells (hdC h bv (.slice (some ⟨g,0,none⟩) 2 cap)) 31)).cell? ⟨g,9,none⟩ = some (.int .i64 hb'.kind) := by
    rw [World.cell?_of_block (w := w) (((Below.refl w.heap.size w).alloc (Nat.le_refl _) _).block g hg)]; exact m2
   have HQ := hid hq
   clear hq hp hlv hreps HP na nb ea eb h6
   rcases shaped_cases k with rfl | rfl | rfl | ⟨e8,e10,e11,g8,g10,g11⟩
   ·cases e3 : (ha.kind == 3) <;> cases e4 : (hb'.kind == 7)
    all_goals
     have hq := HQ.out
     (first | simp [e3,e4] at hq | skip)
     rw [hq]
     clear hq HQ
     go_enter Try.func36,Try.ntmps36
     go_wp2
     exact bodyPost_ret (v := .bool _) (by simp [results,Try.results36,go_sem]) rfl ⟨rfl,(Below.refl w.heap.size w).alloc (Nat.le_refl _) _⟩
   ·cases e3 : (ha.kind == 3) <;> cases e4 : (hb'.kind == 5)
    all_goals
     have hq := HQ.out
     (first | simp [e3,e4] at hq | skip)
     rw [hq]
     clear hq HQ
     go_enter Try.func36,Try.ntmps36
     go_wp2
     exact bodyPost_ret (v := .bool _) (by simp [results,Try.results36,go_sem]) rfl ⟨rfl,(Below.refl w.heap.size w).alloc (Nat.le_refl _) _⟩
   ·cases e3 : (ha.kind == 3)
    all_goals
     have hq := HQ.out
     (first | simp at hq | skip)
     rw [hq]
     clear hq HQ
     go_enter Try.func36,Try.ntmps36
     go_wp2
     exact bodyPost_ret (v := .bool _) (by simp [results,Try.results36,go_sem]) rfl ⟨rfl,(Below.refl w.heap.size w).alloc (Nat.le_refl _) _⟩
   ·have HT := hid (show shapedB k (.mk h [a,b]) = true by rw [HQ.out,if_neg (beq_eq_false_iff_ne.1 e8),if_neg (beq_eq_false_iff_ne.1 e10),if_neg (beq_eq_false_iff_ne.1 e11)])
    cases e3 : (ha.kind == 3)
    all_goals
     rw [HT.out]
     go_enter Try.func36,Try.ntmps36
     go_wp2
     exact bodyPost_ret (v := .bool _) (by simp [results,Try.results36,go_sem]) rfl ⟨rfl,(Below.refl w.heap.size w).alloc (Nat.le_refl _) _⟩
  ·obtain ⟨a,cc,rfl⟩ := row_slice_q hlv
   have c2 : (((l.length : Nat) : Int) == 2) = false := by rw [beq_eq_false_iff_ne]; omega
   have hp : ∀ k,pairB k (.mk h l) = false := by
    intro k
    match l,h2 with
    | [],_ => rfl
    | [_],_ => rfl
    | _ :: _ :: _ :: _,_ => rfl
   have hq : shapedB k (.mk h l) = if k = 8 then false else if k = 10 then false else if k = 11 then false else true := by
    unfold shapedB
    simp only [hp]
    rw [show decide ((Tm.mk h l).hd.kind = 3) = false from decide_eq_false (by show ¬ h.kind = 3; omega)]
   have HQ := hid hq
   clear hq hp hlv hreps HP h6 h2
   rcases shaped_cases k with rfl | rfl | rfl | ⟨e8,e10,e11,g8,g10,g11⟩
   rotate_left 3
   ·have HT := hid (show shapedB k (.mk h l) = true by rw [HQ.out,if_neg (beq_eq_false_iff_ne.1 e8),if_neg (beq_eq_false_iff_ne.1 e10),if_neg (beq_eq_false_iff_ne.1 e11)])
    rw [HT.out]
    go_enter Try.func36,Try.ntmps36
    go_wp2
    exact bodyPost_ret (v := .bool _) (by simp [results,Try.results36,go_sem]) rfl ⟨rfl,(Below.refl w.heap.size w).alloc (Nat.le_refl _) _⟩
   all_goals
    have hq := HQ.out
    (first | simp at hq | skip)
    rw [hq]
    clear hq HQ
    go_enter Try.func36,Try.ntmps36
    go_wp2
    exact bodyPost_ret (v := .bool _) (by simp [results,Try.results36,go_sem]) rfl ⟨rfl,(Below.refl w.heap.size w).alloc (Nat.le_refl _) _⟩
 ·have c6 : (h.kind == 6) = false := by simpa using h6
  obtain ⟨a,cc,rfl⟩ := row_slice_q hlv
  have hp : ∀ k,pairB k (.mk h l) = false := by
   intro k
   unfold pairB
   split
   ·exact decide_eq_false fun e => h6 e.1
   ·rfl
  have hq : shapedB k (.mk h l) = if k = 8 then false else if k = 10 then false else if k = 11 then (h.kind == 3) else true := by
   unfold shapedB
   simp only [hp]
   rfl
  have HQ := hid hq
  clear hq hp hlv hreps HP h6
  rcases shaped_cases k with rfl | rfl | rfl | ⟨e8,e10,e11,g8,g10,g11⟩
  rotate_left 3
  ·have HT := hid (show shapedB k (.mk h l) = true by rw [HQ.out,if_neg (beq_eq_false_iff_ne.1 e8),if_neg (beq_eq_false_iff_ne.1 e10),if_neg (beq_eq_false_iff_ne.1 e11)])
   rw [HT.out]
   go_enter Try.func36,Try.ntmps36
   go_wp2
   exact bodyPost_ret (v := .bool _) (by simp [results,Try.results36,go_sem]) rfl ⟨rfl,(Below.refl w.heap.size w).alloc (Nat.le_refl _) _⟩
  all_goals
   have hq := HQ.out
   (first | simp at hq | skip)
   rw [hq]
   clear hq HQ
   go_enter Try.func36,Try.ntmps36
   go_wp2
   exact bodyPost_ret (v := .bool _) (by simp [results,Try.results36,go_sem]) rfl ⟨rfl,(Below.refl w.heap.size w).alloc (Nat.le_refl _) _⟩
end Go.Proofs.Ytgadkiljnebicaa
