/- Several texts in one. -/
import Derived.Test.YtgadkiljnebicaaD03
import Derived.Test.YtgadkiljnebicaaD08
import Derived.Deep.RegionHeld3
import Derived.StillTailTactics
import Derived.Test.YtgadkiljnebicaaD02
import Derived.Test.YtgadkiljnebicaaD06
namespace Go.Proofs.Ytgadkiljnebicaa
open Go.Lib (hid)
open Go.RowKit
set_option maxRecDepth 100000
attribute [local go_sem] run_store_complex
theorem row_slice_q {w : World} {F : Nat → Prop} {e : TypeId} {sz : Nat} {v : Value} {n : Nat} {xs : List Value} (h : Row w F e sz v n xs) : ∃ a c,v = .slice a n c := by
 rcases h.1.2 with ⟨rfl,rfl⟩ | ⟨g,cap,cur,hv,_⟩
 ·exact ⟨none,0,rfl⟩
 ·exact ⟨_,_,hv⟩
set_option maxHeartbeats 2000000 in
theorem two_any (k : Int) (t : Tm) (F : Nat → Prop) (c : Array Value) (w : World) (hrep : Rep w F t c) (hl : t.l.length ≤ 1000000) : Calls Try.prog 47 #[.agg c,.int .i64 k] w (RB w (.bool (pairB k t))) := by
 obtain ⟨h,l⟩ := t
 obtain ⟨bv,lv,rfl,hb,vs,hlv,hreps⟩ := hrep
 have HP := hid hb
 clear hb
 by_cases h6 : h.kind = 6
 ·have c6 : (h.kind == 6) = true := by simpa using h6
  have H6 := hid h6
  clear h6
  by_cases h2 : l.length = 2
  ·match l,h2 with
   | [a,b],_ =>
   obtain ⟨g,cap,rfl,hFg,ha,bva,pva,_,⟨la,ea⟩,na⟩ := hlv.nine hreps (i := 0) (by simp)
   obtain ⟨g',cap',e',_,hb',bvb,pvb,_,⟨lb,eb⟩,nb⟩ := hlv.nine hreps (i := 1) (by simp)
   injection e' with e1 e2 e3
   injection e1 with e1
   injection e1 with e1
   subst e1
   have m1 : w.cell? ⟨g,0,none⟩ = some (.int .i64 ha.kind) := na.1
   have m2 : w.cell? ⟨g,9,none⟩ = some (.int .i64 hb'.kind) := nb.1
   have hg : g < w.heap.size := cell_lt m1
   have hp : pairB k (.mk h [a,b]) = (ha.kind == 3 && hb'.kind == k) := by
    have ea' : a.hd = ha := by rw [show a = .mk ha la from ea]; rfl
    have eb' : b.hd = hb' := by rw [show b = .mk hb' lb from eb]; rfl
    have h6' : (Tm.mk h [a,b]).hd.kind = 6 := H6.out
    simp only [pairB,Tm.l,ea',eb',h6',true_and]
    rw [Bool.eq_iff_iff]
    simp
   rw [hp]
   have n1 : (w.alloc (.cells (hdC h bv (.slice (some ⟨g,0,none⟩) 2 cap)) 31)).cell? ⟨g,0,none⟩ = some (.int .i64 ha.kind) := by
    rw [World.cell?_of_block (w := w) (((Below.refl w.heap.size w).alloc (Nat.le_refl _) _).block g hg)]; exact m1
   have n2 : (w.alloc (.cells (hdC h bv (.slice (some ⟨g,0,none⟩) 2 cap)) 31)).cell? ⟨g,9,none⟩ = some (.int .i64 hb'.kind) := by
    rw [World.cell?_of_block (w := w) (((Below.refl w.heap.size w).alloc (Nat.le_refl _) _).block g hg)]; exact m2
   clear hp hlv hreps HP na nb ea eb
   cases e3 : (ha.kind == 3) <;> cases e4 : (hb'.kind == k)
   all_goals
    go_enter Try.func47,Try.ntmps47
    go_wp2
    exact bodyPost_ret (v := .bool _) (by simp [results,Try.results47,go_sem]) rfl ⟨rfl,(Below.refl w.heap.size w).alloc (Nat.le_refl _) _⟩
  ·obtain ⟨a,cc,rfl⟩ := row_slice_q hlv
   have c2 : (((l.length : Nat) : Int) == 2) = false := by rw [beq_eq_false_iff_ne]; omega
   have hp : pairB k (.mk h l) = false := by
    match l,h2 with
    | [],_ => rfl
    | [_],_ => rfl
    | _ :: _ :: _ :: _,_ => rfl
   rw [hp]
   clear hp hlv hreps HP
   go_enter Try.func47,Try.ntmps47
   go_wp2
   exact bodyPost_ret (v := .bool false) (by simp [results,Try.results47,go_sem]) rfl ⟨rfl,(Below.refl w.heap.size w).alloc (Nat.le_refl _) _⟩
 ·have c6 : (h.kind == 6) = false := by simpa using h6
  have hp : pairB k (.mk h l) = false := by
   unfold pairB
   split
   ·exact decide_eq_false fun e => h6 e.1
   ·rfl
  rw [hp]
  clear hp hlv hreps HP
  go_enter Try.func47,Try.ntmps47
  go_wp2
  exact bodyPost_ret (v := .bool false) (by simp [results,Try.results47,go_sem]) rfl ⟨rfl,(Below.refl w.heap.size w).alloc (Nat.le_refl _) _⟩
end Go.Proofs.Ytgadkiljnebicaa
namespace Go.Proofs.Ytgadkiljnebicaa
open Go.Lib (hid)
open Go.RowKit
set_option maxRecDepth 100000
theorem run_store_nilFunc' {P : Program} {w : World} {a : Addr} {m : Mode} : (store a .nilFunc m).run P w = stored P w a .nilFunc m := run_store P w a _ m rfl
theorem run_store_func' {P : Program} {w : World} {a : Addr} {m : Mode} (fn : Fn) (first captured : Array Value) : (store a (.func fn first captured) m).run P w = stored P w a (.func fn first captured) m := run_store P w a _ m rfl
attribute [local go_sem] run_store_complex run_store_func' run_store_nilFunc'
abbrev kL (n : Int) : Array Value := #[.int .i64 n,.nilFunc,.nilFunc,fv 69,fv 63,fv 70,fv 63,fv 71,fv 72,fv 67,fv 64,fv 67,fv 64,fv 68,fv 66,fv 68,fv 66,fv 74,fv 66]
def LkAt (w : World) (p n : Nat) : Prop := w.heap[p]? = some (.cells (kL n) 111 (0,0))
theorem LkAt.cell {w : World} {p n : Nat} (h : LkAt w p n) (i : Nat) (hi : i < 19) : w.cell? ⟨p,i,none⟩ = some ((kL n)[i]'hi) := by
 have hs : (kL n).size = 19 := rfl
 unfold LkAt at h
 simp [World.cell?,h,hi]
theorem LkAt.block {w w' : World} {p n : Nat} (h : LkAt w p n) (e : w'.heap[p]? = w.heap[p]?) : LkAt w' p n := e.trans h
theorem LkAt.lt {w : World} {p n : Nat} (h : LkAt w p n) : p < w.heap.size := (Array.getElem?_eq_some_iff.1 h).1
theorem LkAt.fz {w : World} {p n : Nat} (h : LkAt w p n) (o : Nat) : w.frozen? ⟨p,o,none⟩ = false := by simp [World.frozen?,LkAt] at h ⊢; simp [h]
theorem LkAt.set {w : World} {p n m : Nat} (h : LkAt w p n) : LkAt (w.setCell ⟨p,0,none⟩ (.int .i64 (m : Int))) p m := heap_setCell_at h
def LkPost (W : World) (p m : Nat) (e : Ending) (w' : World) : Prop := e = .returned (.int .i64 0) ∧ LkAt w' p m ∧ Turn (fun i => i = p) W w'
def NineAt (w : World) (b : Nat) (k n : Int) (re im : Nat) (s : ByteArray) (node boot idn : Int) (bv lv : Value) : Prop :=
 w.cell? ⟨b,0,none⟩ = some (.int .i64 k) ∧ w.cell? ⟨b,1,none⟩ = some (.int .i64 n) ∧ w.cell? ⟨b,2,none⟩ = some (.complex .f64 re im) ∧ w.cell? ⟨b,3,none⟩ = some (.string s) ∧
 w.cell? ⟨b,4,none⟩ = some (.int .i64 node) ∧ w.cell? ⟨b,5,none⟩ = some (.int .u32 boot) ∧ w.cell? ⟨b,6,none⟩ = some (.int .u64 idn) ∧ w.cell? ⟨b,7,none⟩ = some bv ∧ w.cell? ⟨b,8,none⟩ = some lv
theorem NineAt.block {w w' : World} {b : Nat} {k n : Int} {re im : Nat} {s : ByteArray} {node boot idn : Int} {bv lv : Value} (h : NineAt w b k n re im s node boot idn bv lv) (e : w'.heap[b]? = w.heap[b]?) : NineAt w' b k n re im s node boot idn bv lv := by
 have c : ∀ o,w'.cell? ⟨b,o,none⟩ = w.cell? ⟨b,o,none⟩ := fun o => World.cell?_of_block (w := w) e
 unfold NineAt
 simp only [c]
 exact h
theorem nine_new (w : World) (k n : Int) (re im : Nat) (s : ByteArray) (node boot idn : Int) (bv lv : Value) (t : TypeId) : NineAt (w.alloc (.cells #[.int .i64 k,.int .i64 n,.complex .f64 re im,.string s,.int .i64 node,.int .u32 boot,.int .u64 idn,bv,lv] t)) w.heap.size k n re im s node boot idn bv lv := by
 refine ⟨?_,?_,?_,?_,?_,?_,?_,?_,?_⟩ <;> simp
set_option maxHeartbeats 2000000 in
theorem lk_walk (k f1 f2 : Nat) (n node boot idn : Int) (re im : Nat) (s : ByteArray) (ba : Option Addr) (bn bc : Nat) (la : Option Addr) (lc : Nat) (l : List Tm) (vs : List (Array Value)) (deep : Nat) (F : Nat → Prop) (p m : Nat) (w : World)
  (hk1 : 1 ≤ k) (hk8 : k ≤ 8) (ht1 : ∀ m : Int,(kL m)[1 + k * 2]? = some (fv f1)) (ht2 : ∀ m : Int,(kL m)[1 + k * 2 + 1]? = some (fv f2))
  (hc1 : ∀ args w,(callFunc f1 args).run Try.prog w = .ok (.enter f1 args) w) (hc2 : ∀ args w,(callFunc f2 args).run Try.prog w = .ok (.enter f2 args) w)
  (hbare : ∀ w,Calls Try.prog f1 #[.agg #[.int .i64 k,.int .i64 n,.complex .f64 re im,.string s,.int .i64 node,.int .u32 boot,.int .u64 idn,.slice ba bn bc,.slice la l.length lc]] w (RB w (vZ k)))
  (hgood : ∀ w,Calls Try.prog f2 #[.agg #[.int .i64 k,.int .i64 n,.complex .f64 re im,.string s,.int .i64 node,.int .u32 boot,.int .u64 idn,.slice ba bn bc,.slice la l.length lc]] w (RB w (.bool true)))
  (hrec : ∀ t ∈ l,∀ c m w,LkAt w p m → Rep w F t c → m + sizeT t ≤ 4096 → Calls Try.prog 46 #[.pointer (some ⟨p,0,none⟩),.agg c,.int .i64 ((deep : Int) + 1)] w (LkPost w p (m + sizeT t)))
  (hdeep : deep ≤ 24) (hll : l.length ≤ 256) (hsz : m + 1 + bn + sizeTs l ≤ 4096) (hp : LkAt w p m)
  (hrow : Row w F 31 9 (.slice la l.length lc) l.length (cat vs)) (hreps : Reps w F l vs) (hF : ∀ b,F b → b ≠ p) :
  Calls Try.prog 46 #[.pointer (some ⟨p,0,none⟩),.agg #[.int .i64 k,.int .i64 n,.complex .f64 re im,.string s,.int .i64 node,.int .u32 boot,.int .u64 idn,.slice ba bn bc,.slice la l.length lc],.int .i64 (deep : Int)] w (LkPost w p (m + 1 + bn + sizeTs l)) := by
 have HP := hid hp
 have HR := hid hrow
 have HS := hid hreps
 have HH := hid hrec
 have T1 := hid ht1
 have T2 := hid ht2
 have B1 := hid hbare
 have B2 := hid hgood
 have HF := hid hF
 have HZ := hid hsz
 have hbn : m + 1 + bn ≤ 4096 := by omega
 have lp := hp.lt
 have hk0 : (0 : Int) ≤ (k : Int) := by omega
 have hk9 : (k : Int) < 9 := by omega
 clear hp hrow hreps hrec ht1 ht2 hbare hgood hF hsz
 go_enter Try.func46,Try.ntmps46
 go_wp2_with fail
 have HT := hid (Turn.alloc (fun i => i = p) w (.cells #[.int .i64 k,.int .i64 n,.complex .f64 re im,.string s,.int .i64 node,.int .u32 boot,.int .u64 idn,.slice ba bn bc,.slice la l.length lc] 31))
 have HN := hid (nine_new w k n re im s node boot idn (.slice ba bn bc) (.slice la l.length lc) 31)
 have HP2 := hid (HP.out.block (((Below.refl _ w).alloc (Nat.le_refl _) (.cells #[.int .i64 k,.int .i64 n,.complex .f64 re im,.string s,.int .i64 node,.int .u32 boot,.int .u64 idn,.slice ba bn bc,.slice la l.length lc] 31)).block p lp))
 have hbp : ¬ w.heap.size = p := by omega
 have hsz2 : w.heap.size < (w.alloc (.cells #[.int .i64 k,.int .i64 n,.complex .f64 re im,.string s,.int .i64 node,.int .u32 boot,.int .u64 idn,.slice ba bn bc,.slice la l.length lc] 31)).heap.size := by simp
 generalize hbb : w.heap.size = b at *
 have HB := hid hbb
 clear hbb
 generalize w.alloc (.cells #[.int .i64 k,.int .i64 n,.complex .f64 re im,.string s,.int .i64 node,.int .u32 boot,.int .u64 idn,.slice ba bn bc,.slice la l.length lc] 31) = w2 at *
 have q0 : w2.cell? ⟨p,0,none⟩ = some (.int .i64 m) := HP2.out.cell 0 (by omega)
 have k7 := HN.out.2.2.2.2.2.2.2.1
 have HT2 : Hid (Turn (fun i => i = p) w w2.drew) := HT.out.drew
 have hsz3 : b < w2.drew.heap.size := hsz2
 go_still_tail 11,(by kernel_rfl)
 change wpList _ _ _ _ _ w2.drew
 have HN3 : Hid (NineAt w2.drew b k n re im s node boot idn (.slice ba bn bc) (.slice la l.length lc)) := HN.out
 have HP3 : Hid (LkAt w2.drew p m) := HP2.out
 clear q0 k7 HT HN HP2 hsz2
 generalize w2.drew = w3 at *
 have r0 : w3.cell? ⟨p,0,none⟩ = some (.int .i64 m) := HP3.out.cell 0 (by omega)
 have rf : w3.frozen? ⟨p,0,none⟩ = false := HP3.out.fz 0
 have k0 := HN3.out.1
 go_wp2_with fail
 have HP4 : Hid (LkAt (w3.setCell ⟨p,0,none⟩ (.int .i64 ((m : Int) + (1 + (bn : Int))))) p (m + (1 + bn))) := HP3.out.set (m := m + (1 + bn))
 have HT4 := hid (HT2.out.trans (Turn.setCell w3 p 0 (.int .i64 ((m : Int) + (1 + (bn : Int))))))
 have HN4 := hid (HN3.out.block (Below.heap_setCell w3 ⟨p,0,none⟩ (.int .i64 ((m : Int) + (1 + (bn : Int)))) _ hbp))
 have hs4 : b < (w3.setCell ⟨p,0,none⟩ (.int .i64 ((m : Int) + (1 + (bn : Int))))).heap.size := by simp [World.setCell]; omega
 clear r0 rf k0 HT2 HN3 HP3 hsz3
 generalize w3.setCell ⟨p,0,none⟩ (.int .i64 ((m : Int) + (1 + (bn : Int)))) = w4 at *
 have e3 : w4.cell? ⟨p,1 + k * 2,none⟩ = some (fv f1) := by
  have h := HP4.out
  unfold LkAt at h
  rw [← T1.out ((m + (1 + bn) : Nat) : Int)]
  simp [World.cell?,h]
 have e4 : w4.cell? ⟨p,1 + k * 2 + 1,none⟩ = some (fv f2) := by
  have h := HP4.out
  unfold LkAt at h
  rw [← T2.out ((m + (1 + bn) : Nat) : Int)]
  simp [World.cell?,h]
 have k0 := HN4.out.1
 have n3 := World.new_ne w4 ⟨p,1 + k * 2,none⟩ e3
 have n4 := World.new_ne w4 ⟨p,1 + k * 2 + 1,none⟩ e4
 have n0 := World.new_ne w4 ⟨b,0,none⟩ k0
 go_region_held3 (fun w' => w'.cell? ⟨p,1 + k * 2,none⟩ = some (fv f1) ∧ w'.cell? ⟨p,1 + k * 2 + 1,none⟩ = some (fv f2) ∧ w'.cell? ⟨b,0,none⟩ = some (.int .i64 k)) (go_keep) (fail)
 have HB5 : Below w4.heap.size w4 (w4.alloc (.cells #[fv f1,fv f2] 107)).drew := ((Below.refl _ w4).alloc (Nat.le_refl _) _).drew
 have HN5 : Hid (NineAt (w4.alloc (.cells #[fv f1,fv f2] 107)).drew b k n re im s node boot idn (.slice ba bn bc) (.slice la l.length lc)) := HN4.out.block (HB5.block b hs4)
 have HP5 : Hid (LkAt (w4.alloc (.cells #[fv f1,fv f2] 107)).drew p (m + (1 + bn))) := HP4.out.block (HB5.block p (by omega))
 have d0 : (w4.alloc (.cells #[fv f1,fv f2] 107)).drew.cell? ⟨w4.heap.size,0,none⟩ = some (fv f1) := by simp
 have d1 : (w4.alloc (.cells #[fv f1,fv f2] 107)).drew.cell? ⟨w4.heap.size,1,none⟩ = some (fv f2) := by simp
 have hs5 : w4.heap.size < (w4.alloc (.cells #[fv f1,fv f2] 107)).drew.heap.size := by simp
 have HT5 := hid (HT4.out.trans (Turn.of_below (S := fun i => i = p) HB5))
 clear k0 n0 n3 n4 e3 e4 HB5 T1 T2 HN4 HP4
 rename_i hHeld
 clear hHeld
 generalize (w4.alloc (.cells #[fv f1,fv f2] 107)).drew = w5 at *
 generalize w4.heap.size = dd at *
 clear HT4
 obtain ⟨k0,k1,k2,k3,k4,k5,k6,k7,k8⟩ := HN5.out
 go_wp2_with fail
 refine (B1.out _).mono ?_
 rintro e w6 ⟨rfl,hb6⟩
 go_wp2_with fail
 refine (empty_any _ _).mono ?_
 rintro e w7 ⟨rfl,hb7⟩
 have hb57 := hb6.trans (hb7.mono hb6.size)
 have HN7 := hid (HN5.out.block (hb57.block b (by omega)))
 have HP7 := hid (HP5.out.block (hb57.block p (by omega)))
 have e1 : w7.cell? ⟨dd,1,none⟩ = some (fv f2) := (hb57.cell (p := ⟨dd,1,none⟩) hs5).trans d1
 have HT7 := hid (HT5.out.trans (Turn.of_below (S := fun i => i = p) hb57))
 have hs7 : b < w7.heap.size := by have := hb57.size; omega
 clear hb6 hb7 hb57 k0 k1 k2 k3 k4 k5 k6 k7 k8 d0 d1 hs5 HT5 HN5 HP5 B1
 obtain ⟨k0,k1,k2,k3,k4,k5,k6,k7,k8⟩ := HN7.out
 go_wp2_with fail
 refine (B2.out _).mono ?_
 rintro e w8 ⟨rfl,hb8⟩
 have HN8 := hid (HN7.out.block (hb8.block b hs7))
 have HP8 := hid (HP7.out.block (hb8.block p (by omega)))
 have HT8 := hid (HT7.out.trans (Turn.of_below (S := fun i => i = p) hb8))
 clear hb8 k0 k1 k2 k3 k4 k5 k6 k7 k8 e1 HN7 HP7 HT7 B2
 have k8 := HN8.out.2.2.2.2.2.2.2.2
 have hl2 : (l.length : Int) ≤ 256 := by omega
 go_wp2_with fail
 go_loopw [62] (fun t62 wr => ∃ i : Nat,i ≤ l.length ∧ t62 = .int .i64 i ∧ LkAt wr p (m + 1 + bn + sizeTs (l.take i)) ∧ Turn (fun i => i = p) w wr) (fun t62 _ => l.length - (intOf t62).toNat)
 case atStart => exact ⟨0,by omega,rfl,by have := HP8.out; simpa [sizeTs,Nat.add_assoc] using this,HT8.out⟩
 case round =>
  obtain ⟨i,hi,rfl,hL,hT⟩ := hrel
  have HL := hid hL
  have HTr := hid hT
  clear hL hT HP8 HT8 k8 HN8
  by_cases hlt : i < l.length
  ·obtain ⟨g,cap,hv,hg,hd,bv,pv,hrep,⟨l2,hl3⟩,h9⟩ := HR.out.nine HS.out hlt
   have hgp := HF.out g hg
   cases hv
   have hkeep : ∀ b,F b → b < w.heap.size → wr.heap[b]? = w.heap[b]? := fun b e hb => HTr.out.block b hb (HF.out b e)
   have h9' := h9.block (hkeep g hg (cell_lt h9.1))
   have HRep := hid (Rep.keep hkeep _ _ hrep)
   have HZ1 := hid (sizeTs_take hlt)
   have HZ2 := hid (sizeTs_le (l := l) (i + 1))
   have HM := hid (List.getElem_mem hlt)
   obtain ⟨k0,k1,k2,k3,k4,k5,k6,k7,k8⟩ := h9'
   obtain ⟨hk,hn',hre,him,hs',hnode,hboot,hidn,hb'⟩ := hd
   obtain ⟨ba',bn',bc',rfl⟩ : ∃ a n c,bv = .slice a n c := by
    obtain ⟨bv2,pv2,e,hb2,_⟩ := hl3 ▸ hrep
    cases e
    obtain ⟨a,c,e⟩ := row_slice hb2.1
    exact ⟨a,_,c,e⟩
   obtain ⟨pa',pn',pc',rfl⟩ : ∃ a n c,pv = .slice a n c := by
    obtain ⟨bv2,pv2,e,_,vs2,hb2,_⟩ := hl3 ▸ hrep
    cases e
    obtain ⟨a,c,e⟩ := row_slice hb2.1
    exact ⟨a,_,c,e⟩
   have hlt' : (i : Int) < (l.length : Int) := by omega
   have hi0 : (0 : Int) ≤ (i : Int) := by omega
   clear h9 hkeep hrep hl3 hg hgp HR
   go_wp2_with fail
   refine (HH.out _ HM.out _ _ _ (HL.out.block (((Below.refl _ wr).alloc (Nat.le_refl _) _).block p HL.out.lt)) (Rep.keep (fun b _ hb => ((Below.refl _ wr).alloc (Nat.le_refl _) _).block b hb) _ _ HRep.out) (by have := HZ.out; have := HZ1.out; have := HZ2.out; omega)).mono ?_
   rintro e w9 ⟨rfl,hL9,hT9⟩
   have HL9 := hid hL9
   have HT9 := hid ((HTr.out.trans (Turn.alloc _ wr _)).trans hT9)
   clear hL9 hT9
   go_wp2_with fail
   go_round
   case rel => exact ⟨i + 1,by omega,by go_num,by have h := HL9.out; rw [Nat.add_assoc,← HZ1.out] at h; exact h,HT9.out⟩
   case measure => simp [intOf]; omega
  ·obtain rfl : i = l.length := by omega
   go_wp2_with fail
   go_ret
   exact ⟨rfl,by have := HL.out; rw [List.take_length] at this; exact this,HTr.out⟩
def viB : Nat → Nat → List UInt8
 | 0,_ => []
 | f + 1,n => if 127 < n then UInt8.ofNat (n % 128 + 128) :: viB f (n / 128) else [UInt8.ofNat n]
def wideB (n : Nat) : List UInt8 := viB 10 n
def bitsB (p : Nat) : List UInt8 := [UInt8.ofNat (p / 2 ^ 56),UInt8.ofNat (p / 2 ^ 48),UInt8.ofNat (p / 2 ^ 40),UInt8.ofNat (p / 2 ^ 32),UInt8.ofNat (p / 2 ^ 24),UInt8.ofNat (p / 2 ^ 16),UInt8.ofNat (p / 2 ^ 8),UInt8.ofNat p]
def zag (n : Int) : Nat := if 0 ≤ n then (2 * n).toNat else (-2 * n - 1).toNat
def atomB (names : List ByteArray) (s : ByteArray) : List UInt8 × List ByteArray :=
 match pos names s with
 | some k => (wideB k,names)
 | none => (wideB names.length ++ (UInt8.ofNat s.size :: s.data.toList),names ++ [s])
def headB (h : Hd) (n : Nat) (names : List ByteArray) : List UInt8 × List ByteArray :=
 if h.kind = 1 then (wideB (zag h.n),names)
 else if h.kind = 2 then (bitsB h.re ++ bitsB h.im,names)
 else if h.kind = 3 then atomB names h.s
 else if h.kind = 4 ∨ h.kind = 5 then (UInt8.ofNat h.node.toNat :: (wideB h.boot.toNat ++ wideB h.idn.toNat),names)
 else if h.kind = 6 ∨ h.kind = 7 then (wideB n,names)
 else (wideB h.b.length ++ h.b,names)
mutual
def encT : Tm → List ByteArray → List UInt8 × List ByteArray
 | .mk h l,names =>
  let r := headB h l.length names
  let s := encTs l r.2
  (UInt8.ofNat h.kind.toNat :: (r.1 ++ s.1),s.2)
def encTs : List Tm → List ByteArray → List UInt8 × List ByteArray
 | [],names => ([],names)
 | t :: l,names =>
  let r := encT t names
  let s := encTs l r.2
  (r.1 ++ s.1,s.2)
end
theorem encTs_snoc : ∀ (l : List Tm) (t : Tm) (names : List ByteArray),encTs (l ++ [t]) names = ((encTs l names).1 ++ (encT t (encTs l names).2).1,(encT t (encTs l names).2).2)
 | [],t,names => by simp [encTs]
 | u :: l,t,names => by
  have := encTs_snoc l t (encT u names).2
  simp only [List.cons_append,encTs,this,List.append_assoc]
theorem encTs_take {l : List Tm} {i : Nat} (h : i < l.length) (names : List ByteArray) : encTs (l.take (i + 1)) names = ((encTs (l.take i) names).1 ++ (encT l[i] (encTs (l.take i) names).2).1,(encT l[i] (encTs (l.take i) names).2).2) := by
 rw [List.take_succ_eq_append_getElem h,encTs_snoc]
theorem viB_len : ∀ (f n : Nat),(viB f n).length ≤ f
 | 0,_ => by simp [viB]
 | f + 1,n => by
  unfold viB
  split
  ·have := viB_len f (n / 128); simp; omega
  ·simp
theorem wideB_len (n : Nat) : (wideB n).length ≤ 10 := viB_len 10 n
theorem headB_len (h : Hd) (n : Nat) (names : List ByteArray) (hs : h.s.size ≤ 32) : (headB h n names).1.length ≤ 43 + h.b.length := by
 have w := wideB_len
 unfold headB
 split
 ·have := w (zag h.n); simp only; omega
 split
 ·show (bitsB h.re ++ bitsB h.im).length ≤ _; rw [List.length_append]; show 8 + 8 ≤ _; omega
 split
 ·unfold atomB
  split
  ·rename_i k _; have := w k; simp only; omega
  ·have := w names.length
   have e : h.s.data.toList.length = h.s.size := rfl
   simp only [List.length_append,List.length_cons]
   omega
 split
 ·have := w h.boot.toNat; have := w h.idn.toNat; simp only [List.length_append,List.length_cons]; omega
 split
 ·have := w n; simp only; omega
 ·have := w h.b.length; simp only [List.length_append]; omega
theorem nameB_32 {s : ByteArray} (h : nameB s = true) : s.size ≤ 32 := by
 unfold nameB at h
 simp at h
 omega
theorem hdOk_s {h : Hd} {l : List Tm} (k : HdOk h l) : h.s.size ≤ 32 := by
 cases k <;> first | (exact nameB_32 (by assumption)) | (show 0 ≤ 32; decide)
theorem encT_len : ∀ (r : Nat) (t : Tm),GoodT r t → ∀ names,(encT t names).1.length ≤ 44 * sizeT t
 | 0,_,h,_ => h.elim
 | r + 1,.mk h l,hg,names => by
  have h1 := headB_len h l.length names (hdOk_s hg.1)
  have h2 : ∀ (l2 : List Tm),(∀ t ∈ l2,GoodT r t) → ∀ names,(encTs l2 names).1.length ≤ 44 * sizeTs l2 := by
   intro l2
   induction l2 with
   | nil => intro _ names; simp [encTs]
   | cons t l2 ih =>
    intro hk names
    have a := encT_len r t (hk t (by simp)) names
    have b := ih (fun x hx => hk x (by simp [hx])) (encT t names).2
    simp only [encTs,sizeTs,List.length_append]
    omega
  have h3 := h2 l hg.2 (headB h l.length names).2
  simp only [encT,sizeT,List.length_cons,List.length_append]
  omega
theorem some_st {bs l : List UInt8} {s s' : St} {n : Nat} (h : someP bs n s = .ok (l,s')) : s' = { s with i := s.i + n } ∧ l.length = n ∧ s.i + n ≤ bs.length := by
 unfold someP at h
 split at h
 ·cases h
  exact ⟨rfl,by simp; omega,by omega⟩
 ·cases h
theorem wordOf_lt8 (l : List UInt8) (h : l.length = 8) : wordOf l < 18446744073709551616 := by
 have := wordOf_lt l
 rw [h] at this
 exact this
theorem name_st {bs : List UInt8} {s s' : St} {x : ByteArray} (h : nameP bs s = .ok (x,s')) : s'.n = s.n ∧ s'.names.length ≤ s.names.length + 1 ∧ ((∀ y ∈ s.names,nameB y = true) → nameB x = true ∧ ∀ y ∈ s'.names,nameB y = true) := by
 unfold nameP at h
 cases hw : wideN bs s with
 | error e => rw [hw] at h; cases h
 | ok y =>
  obtain ⟨k,s1⟩ := y
  obtain ⟨w1,w2,_⟩ := wide_names _ _ _ _ _ _ hw
  rw [hw] at h
  simp only at h
  split at h
  ·cases h
  ·split at h
   ·rename_i hk
    cases h
    refine ⟨w2,by rw [w1]; omega,fun hn => ⟨?_,by rw [w1]; exact hn⟩⟩
    have : s'.names.getD k ⟨#[]⟩ = s'.names[k] := by simp [List.getD,hk]
    rw [this]
    exact hn _ (by rw [← w1]; exact List.getElem_mem hk)
   ·cases ho : oneP bs s1 with
    | error e => rw [ho] at h; cases h
    | ok y =>
     obtain ⟨size,s2⟩ := y
     obtain ⟨_,o2,_⟩ := oneP_ok ho
     rw [ho] at h
     simp only at h
     split at h
     ·cases h
     ·cases hs : someP bs size s2 with
      | error e => rw [hs] at h; cases h
      | ok y =>
       obtain ⟨l,s3⟩ := y
       obtain ⟨e3,_,_⟩ := some_st hs
       rw [hs] at h
       simp only at h
       split at h
       ·rename_i hb
        cases h
        have e : s3.names = s.names := by rw [e3,o2]; exact w1
        refine ⟨by rw [e3,o2]; exact w2,by simp [e],fun hn => ⟨hb.1,?_⟩⟩
        intro y hy
        rw [e] at hy
        rcases List.mem_append.1 hy with hy | hy
        ·exact hn y hy
        ·simp at hy; subst hy; exact hb.1
       ·cases h
structure Read (rest more : Nat) (s : St) (t : Tm) (s' : St) : Prop where
 cnt : s'.n + more = s.n + sizeT t
 le : s'.n ≤ 4096
 nms : s.names.length + more ≤ s.n → s'.names.length ≤ s'.n
 good : (∀ y ∈ s.names,nameB y = true) → GoodT rest t ∧ ∀ y ∈ s'.names,nameB y = true
theorem many_read {sub : Rd Tm} {rest : Nat} (hsub : ∀ s t s',sub s = .ok (t,s') → Read rest 0 s t s') : ∀ (k : Nat) (s : St) (l : List Tm) (s' : St),manyP sub k s = .ok (l,s') →
  l.length = k ∧ s'.n = s.n + sizeTs l ∧ (s.n ≤ 4096 → s'.n ≤ 4096) ∧ (s.names.length ≤ s.n → s'.names.length ≤ s'.n) ∧ ((∀ y ∈ s.names,nameB y = true) → (∀ t ∈ l,GoodT rest t) ∧ ∀ y ∈ s'.names,nameB y = true) := by
 intro k
 induction k with
 | zero =>
  intro s l s' h
  cases h
  exact ⟨rfl,rfl,id,id,fun h => ⟨by simp,h⟩⟩
 | succ k ih =>
  intro s l s' h
  simp only [manyP] at h
  cases hs : sub s with
  | error e => rw [hs] at h; cases h
  | ok y =>
   obtain ⟨t,s1⟩ := y
   rw [hs] at h
   simp only at h
   cases hm : manyP sub k s1 with
   | error e => rw [hm] at h; cases h
   | ok y =>
    obtain ⟨l2,s2⟩ := y
    rw [hm] at h
    cases h
    obtain ⟨a1,a2,a3,a4,a5⟩ := ih _ _ _ hm
    have r := hsub _ _ _ hs
    have r1 := r.cnt
    refine ⟨by simp [a1],by simp only [sizeTs]; omega,fun _ => a3 r.le,fun hn => a4 (by have := r.nms (by omega); omega),fun hn => ?_⟩
    obtain ⟨g1,g2⟩ := r.good hn
    obtain ⟨g3,g4⟩ := a5 g2
    exact ⟨fun x hx => by
     rcases List.mem_cons.1 hx with rfl | hx
     ·exact g1
     ·exact g3 x hx,g4⟩
theorem wordOf_take {l : List UInt8} (h : l.length = 16) : wordOf (l.take 8) < 18446744073709551616 ∧ wordOf (l.drop 8) < 18446744073709551616 :=
 ⟨wordOf_lt8 _ (by simp; omega),wordOf_lt8 _ (by simp; omega)⟩
theorem kind_read {bs : List UInt8} {sub : Rd Tm} {rest c : Nat} (hsub : ∀ s t s',sub s = .ok (t,s') → Read rest 0 s t s') {s s' : St} {t : Tm} (h : kindP bs sub c s = .ok (t,s')) (hn : s.n ≤ 4096) : Read (rest + 1) 1 s t s' := by
 unfold kindP at h
 split at h
 ·cases hw : wideN bs s with
  | error e => rw [hw] at h; cases h
  | ok y =>
   obtain ⟨u,s1⟩ := y
   obtain ⟨w1,w2,_⟩ := wide_names _ _ _ _ _ _ hw
   rw [hw] at h
   simp only at h
   split at h
   ·rename_i hr
    cases h
    exact ⟨by simp [sizeT,sizeTs,w2],by omega,by rw [w1,w2]; omega,fun hy => ⟨⟨HdOk.int _ hr,by simp⟩,by rw [w1]; exact hy⟩⟩
   ·cases h
 ·split at h
  ·cases hw : someP bs 16 s with
   | error e => rw [hw] at h; cases h
   | ok y =>
    obtain ⟨l,s1⟩ := y
    obtain ⟨e1,e2,_⟩ := some_st hw
    rw [hw] at h
    simp only at h
    split at h
    ·rename_i hr
     cases h
     obtain ⟨p1,p2⟩ := wordOf_take e2
     exact ⟨by simp [sizeT,sizeTs,e1],by rw [e1]; exact hn,by rw [e1]; exact fun h => Nat.le_of_succ_le h,fun hy => ⟨⟨HdOk.cx _ _ p1 p2 (by simp [hr.1,hr.2]),by simp⟩,by rw [e1]; exact hy⟩⟩
    ·cases h
  ·split at h
   ·cases hw : nameP bs s with
    | error e => rw [hw] at h; cases h
    | ok y =>
     obtain ⟨x,s1⟩ := y
     obtain ⟨w1,w2,w3⟩ := name_st hw
     rw [hw] at h
     cases h
     exact ⟨by simp [sizeT,sizeTs,w1],by omega,by rw [w1]; omega,fun hy => ⟨⟨HdOk.atom _ (w3 hy).1,by simp⟩,(w3 hy).2⟩⟩
   ·split at h
    ·rename_i hc
     cases ho : oneP bs s with
     | error e => rw [ho] at h; cases h
     | ok y =>
      obtain ⟨node,s1⟩ := y
      obtain ⟨o1,o2,_⟩ := oneP_ok ho
      rw [ho] at h
      simp only at h
      cases hw : wideN bs s1 with
      | error e => rw [hw] at h; cases h
      | ok y =>
       obtain ⟨boot,s2⟩ := y
       obtain ⟨w1,w2,_⟩ := wide_names _ _ _ _ _ _ hw
       rw [hw] at h
       simp only at h
       split at h
       ·cases h
       ·rename_i hb
        cases hv : wideN bs s2 with
        | error e => rw [hv] at h; cases h
        | ok y =>
         obtain ⟨idn,s3⟩ := y
         obtain ⟨v1,v2,_⟩ := wide_names _ _ _ _ _ _ hv
         rw [hv] at h
         simp only at h
         split at h
         ·rename_i hi
          cases h
          have n1 : s1.n = s.n := by rw [o2]
          have n2 : s1.names = s.names := by rw [o2]
          exact ⟨by simp [sizeT,sizeTs]; omega,by omega,by rw [v1,w1,n2]; omega,fun hy => ⟨⟨HdOk.id c node boot idn hc o1 (by omega) (wideN_lt hv) hi,by simp⟩,by rw [v1,w1,n2]; exact hy⟩⟩
         ·cases h
    ·split at h
     ·rename_i hc
      cases hw : wideN bs s with
      | error e => rw [hw] at h; cases h
      | ok y =>
       obtain ⟨k,s1⟩ := y
       obtain ⟨w1,w2,_⟩ := wide_names _ _ _ _ _ _ hw
       rw [hw] at h
       simp only at h
       split at h
       ·cases h
       ·rename_i hk
        cases hm : manyP sub k s1 with
        | error e => rw [hm] at h; cases h
        | ok y =>
         obtain ⟨l,s2⟩ := y
         rw [hm] at h
         cases h
         obtain ⟨a1,a2,a3,a4,a5⟩ := many_read hsub _ _ _ _ hm
         refine ⟨by simp only [sizeT,List.length_nil]; omega,a3 (by omega),fun h => by have := a4 (by rw [w1,w2]; omega); omega,fun hy => ?_⟩
         obtain ⟨g1,g2⟩ := a5 (by rw [w1]; exact hy)
         exact ⟨⟨HdOk.list c l hc (by omega),g1⟩,g2⟩
     ·split at h
      ·cases hw : wideN bs s with
       | error e => rw [hw] at h; cases h
       | ok y =>
        obtain ⟨k,s1⟩ := y
        obtain ⟨w1,w2,_⟩ := wide_names _ _ _ _ _ _ hw
        rw [hw] at h
        simp only at h
        split at h
        ·cases h
        ·rename_i hk
         cases hm : someP bs k { s1 with n := s1.n + k } with
         | error e => rw [hm] at h; cases h
         | ok y =>
          obtain ⟨l,s2⟩ := y
          obtain ⟨e1,e2,_⟩ := some_st hm
          rw [hm] at h
          cases h
          have n2 : s'.n = s1.n + k := by rw [e1]
          have n3 : s'.names = s.names := by rw [e1]; exact w1
          exact ⟨by simp only [sizeT,sizeTs]; omega,by omega,by rw [n3]; omega,fun hy => ⟨⟨HdOk.bytes l,by simp⟩,by rw [n3]; exact hy⟩⟩
      ·cases h
theorem part_read (bs : List UInt8) : ∀ (rest : Nat) (s : St) (t : Tm) (s' : St),partP bs rest s = .ok (t,s') → Read rest 0 s t s' := by
 intro rest
 induction rest with
 | zero => intro s t s' h; cases h
 | succ rest ih =>
  intro s t s' h
  unfold partP at h
  split at h
  ·cases h
  ·rename_i hn
   cases ho : oneP bs { s with n := s.n + 1 } with
   | error e => rw [ho] at h; cases h
   | ok y =>
    obtain ⟨c,s1⟩ := y
    obtain ⟨o1,o2,_⟩ := oneP_ok ho
    rw [ho] at h
    simp only at h
    have n1 : s1.n = s.n + 1 := by rw [o2]
    have n2 : s1.names = s.names := by rw [o2]
    have r := kind_read ih h (by omega)
    have r1 := r.cnt
    exact ⟨by omega,r.le,fun hx => r.nms (by rw [n2]; omega),fun hy => r.good (by rw [n2]; exact hy)⟩
end Go.Proofs.Ytgadkiljnebicaa
