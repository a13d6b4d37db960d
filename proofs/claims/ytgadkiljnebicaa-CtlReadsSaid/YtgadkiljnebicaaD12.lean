/- Several texts in one. -/
import Derived.Test.YtgadkiljnebicaaD11
import Derived.Test.YtgadkiljnebicaaD07
import Derived.Laws.DeepNot64
import Derived.Test.YtgadkiljnebicaaD03
namespace Go.Proofs.Ytgadkiljnebicaa
open Go.Lib (hid)
open Go.RowKit
set_option maxRecDepth 100000
attribute [local go_sem] run_store_complex
abbrev zC : Array Value := #[.int .i64 0,.int .i64 0,.complex .f64 0 0,.string ⟨#[]⟩,.int .i64 0,.int .u32 0,.int .u64 0,nilV,nilV]
def own (N R p m : Nat) (v : Value) (b : Nat) : Prop := N ≤ b ∧ ¬ foot R p m v b
def PartPost (R p m : Nat) (v bv : Value) (bs : List UInt8) (W : World) (r : Except Int (Tm × St)) (e : Ending) (w' : World) : Prop :=
 match r with
 | .ok (t,s') => ∃ v' c,e = .returned (.agg c) ∧ RdAt w' R p m v' bv bs s' ∧ Turn (foot R p m v) W w' ∧ (v'.ownBlock = v.ownBlock ∨ ∀ b,v'.ownBlock = some b → W.heap.size ≤ b) ∧ Rep w' (own W.heap.size R p m v') t c
 | .error x => e = .panicked (thrown x) ∧ Turn (foot R p m v) W w'
theorem NineAt.of_block {w : World} {b : Nat} {k n : Int} {re im : Nat} {s : ByteArray} {node boot idn : Int} {bv lv : Value} {t : TypeId} (h : w.heap[b]? = some (.cells #[.int .i64 k,.int .i64 n,.complex .f64 re im,.string s,.int .i64 node,.int .u32 boot,.int .u64 idn,bv,lv] t (0,0))) : NineAt w b k n re im s node boot idn bv lv := by
 refine ⟨?_,?_,?_,?_,?_,?_,?_,?_,?_⟩ <;> simp [World.cell?,h]
theorem blk_lt {w : World} {b : Nat} {o : Obj} (h : w.heap[b]? = some o) : b < w.heap.size := (Array.getElem?_eq_some_iff.1 h).1
theorem xor_zero (a : Nat) (ha : a < 9223372036854775808) : bits .xor .i64 (a : Int) 0 = a := by
 have : a % 2 ^ 64 = a := Nat.mod_eq_of_lt (by omega)
 have e0 : BitVec.ofInt 64 0 = 0#64 := by decide
 show IntKind.i64.wrap ((BitVec.ofInt 64 (a : Int) ^^^ BitVec.ofInt 64 0).toNat : Int) = a
 rw [e0,BitVec.xor_zero,BitVec.ofInt_natCast,BitVec.toNat_ofNat,this,IntKind.wrap_i64]
 omega
theorem xor_ones (a : Nat) (ha : a < 9223372036854775808) : bits .xor .i64 (a : Int) (-1) = -(a : Int) - 1 := by
 have h := i64_not a ha
 have c : bits .xor .i64 (a : Int) (-1) = bits .xor .i64 (-1) (a : Int) := by
  simp only [bits]
  rw [BitVec.xor_comm]
 rw [c,h]
 omega
theorem zig_eq (u : Nat) (hu : u < 18446744073709551616) : bits .xor .i64 ((u : Int) / 2) (wrap64 (-wrap64 (bits .and .u64 (u : Int) 1))) = zig u := by
 have h1 := bits_mask .u64 64 (by decide) wraps_u64 1 (by decide) (u : Int) (by omega) (by omega)
 rw [show ((2 : Int) ^ 1 - 1) = 1 by decide] at h1
 rw [h1]
 have e2 : ((u : Int) / 2) = ((u / 2 : Nat) : Int) := by simp
 rw [e2]
 have hl : u / 2 < 9223372036854775808 := by omega
 unfold zig
 rcases Nat.mod_two_eq_zero_or_one u with h | h
 ·have : ((u : Int) % 2 ^ 1) = 0 := by omega
  rw [this,if_neg (by omega),show wrap64 (-wrap64 0) = 0 by unfold wrap64; omega]
  exact xor_zero _ hl
 ·have : ((u : Int) % 2 ^ 1) = 1 := by omega
  rw [this,if_pos h,show wrap64 (-wrap64 1) = -1 by unfold wrap64; omega]
  exact xor_ones _ hl
theorem setRow_turn (w : World) (g : Nat) (cs : Array Value) : Turn (fun i => i = g) w (w.setRow g cs) :=
 ⟨rfl,rfl,rfl,by simp [World.setRow],fun k _ hk => setRow_other w g k _ hk⟩
theorem rp_close {R p m N : Nat} {v v' bv : Value} {bs : List UInt8} {s s' : St} {w wE : World} {t : Tm} {c cs : Array Value} (h : RdAt w R p m v bv bs s) (hR : RdAt wE R p m v' bv bs s') (hT : Turn (foot R p m v) w wE) (hN : w.heap.size = N) (hv : v'.ownBlock = v.ownBlock ∨ ∀ b,v'.ownBlock = some b → N < b)
  (hrep : Rep wE (own (N + 1) R p m v') t c) : RdAt (wE.setRow N cs) R p m v' bv bs s' ∧ Turn (foot R p m v) w (wE.setRow N cs) ∧ (v'.ownBlock = v.ownBlock ∨ ∀ b,v'.ownBlock = some b → w.heap.size ≤ b) ∧ Rep (wE.setRow N cs) (own w.heap.size R p m v') t c := by
 subst hN
 have hne : ∀ i,foot R p m v' i → i ≠ w.heap.size := by
  rintro i (hi | hi | hi | hi)
  ·have := h.lt i (.inl hi); omega
  ·have := h.lt i (.inr (.inl hi)); omega
  ·have := h.lt i (.inr (.inr (.inl hi))); omega
  ·rcases hv with hv | hv
   ·have := h.lt i (.inr (.inr (.inr (hv.symm.trans hi)))); omega
   ·have := hv i hi; omega
 refine ⟨hR.keep fun i hi _ => setRow_other _ _ _ _ ?_,hT.andThen (setRow_turn wE _ cs) (fun i e => .inr (by omega)),hv.imp id fun k b e => Nat.le_of_lt (k b e),?_⟩
 ·rcases hi with hi | ⟨hi,hp⟩
  ·exact hne i hi
  ·have := h.blt i hi hp; omega
 ·refine Rep.mono (F := own (w.heap.size + 1) R p m v') (fun b e _ => ⟨by have := e.1; omega,e.2⟩) _ _ (Rep.keep (fun b e _ => setRow_other _ _ _ _ (by have := e.1; omega)) _ _ hrep)
theorem blk_fz {w : World} {b : Nat} {cs : Array Value} {t : TypeId} (h : w.heap[b]? = some (.cells cs t (0,0))) (o : Nat) : w.frozen? ⟨b,o,none⟩ = false := by simp [World.frozen?,h]
theorem apartT {R p m T : Nat} {v v' bv : Value} {bs : List UInt8} {s : St} {w : World} (h : RdAt w R p m v bv bs s) (hT : w.heap.size ≤ T) (hv : v'.ownBlock = v.ownBlock ∨ ∀ b,v'.ownBlock = some b → T < b) : ∀ i,foot R p m v' i ∨ (bv.ownBlock = some i ∧ 0 < bs.length) → ¬ i = T := by
 rintro i (hi | ⟨hi,hp⟩) e
 ·rcases hi with hi | hi | hi | hi
  ·have := h.lt i (.inl hi); omega
  ·have := h.lt i (.inr (.inl hi)); omega
  ·have := h.lt i (.inr (.inr (.inl hi))); omega
  ·rcases hv with hv | hv
   ·have := h.lt i (.inr (.inr (.inr (hv.symm.trans hi)))); omega
   ·have := hv i hi; omega
 ·have := h.blt i hi hp; omega
theorem rd_setT {R p m T o : Nat} {v v' bv u : Value} {bs : List UInt8} {s s' : St} {w w5 : World} (h : RdAt w R p m v bv bs s) (hR : RdAt w5 R p m v' bv bs s') (hT : w.heap.size ≤ T) (hv : v'.ownBlock = v.ownBlock ∨ ∀ b,v'.ownBlock = some b → T < b) : RdAt (w5.setCell ⟨T,o,none⟩ u) R p m v' bv bs s' :=
 hR.keep fun i hi _ => Below.heap_setCell _ _ _ _ (apartT h hT hv i hi)
theorem turn_setT {R p m T o : Nat} {v u : Value} {w w5 : World} (h : Turn (foot R p m v) w w5) (hT : w.heap.size ≤ T) : Turn (foot R p m v) w (w5.setCell ⟨T,o,none⟩ u) :=
 h.andThen (Turn.setCell w5 T o u) (fun i e => .inr (by omega))
theorem Rep.leaf {w : World} {F : Nat → Prop} {h : Hd} (hb : h.b = []) : Rep w F (.mk h []) (hdC h nilV nilV) := ⟨nilV,nilV,rfl,by rw [hb]; exact Row.nil _ _ _ _,[],Row.nil _ _ _ _,rfl⟩
theorem some16_err1 {bs : List UInt8} {s : St} {x : Int} (h : someP bs 8 s = .error x) : x = 72 ∧ someP bs 16 s = .error x := by
 unfold someP at h ⊢
 split at h
 ·cases h
 ·cases h
  exact ⟨rfl,by rw [if_neg (by omega)]⟩
theorem some16_err2 {bs l : List UInt8} {s s2 : St} {x : Int} (h : someP bs 8 s = .ok (l,s2)) (h2 : someP bs 8 s2 = .error x) : someP bs 16 s = .error x := by
 unfold someP at h h2 ⊢
 split at h
 ·cases h
  split at h2
  ·cases h2
  ·cases h2
   rename_i h3
   simp only at h3
   rw [if_neg (by omega)]
 ·cases h
theorem some16_ok {bs l1 l2 : List UInt8} {s s2 s3 : St} (h : someP bs 8 s = .ok (l1,s2)) (h2 : someP bs 8 s2 = .ok (l2,s3)) : someP bs 16 s = .ok (l1 ++ l2,s3) ∧ l1.length = 8 ∧ l2.length = 8 := by
 unfold someP at h h2 ⊢
 split at h
 ·cases h
  split at h2
  ·cases h2
   rename_i h3
   simp only at h3
   rw [if_pos (by omega)]
   refine ⟨?_,by simp; omega,by simp; omega⟩
   congr 2
   simp only
   rw [← List.drop_drop,← List.take_add]
  ·cases h2
 ·cases h
theorem kind2_eq {bs : List UInt8} {sub : Rd Tm} {s s2 s3 : St} {l1 l2 : List UInt8} (h : someP bs 8 s = .ok (l1,s2)) (h2 : someP bs 8 s2 = .ok (l2,s3)) :
  kindP bs sub 2 s = if (okF (wordOf l1) && okF (wordOf l2)) = true then .ok (.mk { kind := 2,re := wordOf l1,im := wordOf l2 } [],s3) else .error 73 := by
 obtain ⟨h3,h4,h5⟩ := some16_ok h h2
 have e1 : (l1 ++ l2).take 8 = l1 := by rw [← h4]; exact List.take_left
 have e2 : (l1 ++ l2).drop 8 = l2 := by rw [← h4]; exact List.drop_left
 unfold kindP
 rw [if_neg (by decide),if_pos rfl,h3]
 simp only [e1,e2,Bool.and_eq_true]
theorem word8 {bs l : List UInt8} {s s2 : St} (h : someP bs 8 s = .ok (l,s2)) : wordOf l < 18446744073709551616 := by
 unfold someP at h
 split at h
 ·rename_i hle
  cases h
  have := wordOf_lt ((bs.drop s.i).take 8)
  have hl : ((bs.drop s.i).take 8).length = 8 := by simp; omega
  rw [hl] at this
  exact this
 ·cases h
theorem some_no {bs : List UInt8} {s : St} {j k : Nat} (hj : j < k) (h : ¬ s.i + j < bs.length) : someP bs k s = .error 72 := by unfold someP; rw [if_neg (by omega)]
theorem some_yes {bs : List UInt8} {s : St} {k : Nat} (h : s.i + k ≤ bs.length) : someP bs k s = .ok ((bs.drop s.i).take k,{ s with i := s.i + k }) := by unfold someP; rw [if_pos h]
theorem app_keep {w6 w7 : World} {o : Obj} {B e size n : Nat} {u : Value} {xs : List Value} (ho : w6.ownsRow B e size u n xs) (hg : (w6.alloc o).grownBy w7 u.ownBlock) : (∀ i,i < B → i < w6.heap.size → w7.heap[i]? = w6.heap[i]?) ∧ w6.heap.size ≤ w7.heap.size ∧ Turn (fun i => u.ownBlock = some i) w6 w7 := by
 have hsz : w6.heap.size ≤ w7.heap.size := by have := hg.size; simp at this; omega
 refine ⟨fun i hB hi => (hg.block i (by simp; omega) (fun e => by have := (ho.lt i e.symm).1; omega)).trans (Below.heap_alloc w6 o i hi),hsz,(Turn.alloc _ w6 o).trans (Turn.of_grownBy hg)⟩
set_option maxHeartbeats 2000000 in
theorem value_good (h : Hd) (l : List Tm) (hd : HdOk h l) (ba : Option Addr) (bc : Nat) (la : Option Addr) (lc : Nat) (w : World) (h1 : h.b.length = 0 → Value.slice ba h.b.length bc = nilV) (h2 : l.length = 0 → Value.slice la l.length lc = nilV) :
  Calls Try.prog 83 #[.agg (hdC h (.slice ba h.b.length bc) (.slice la l.length lc))] w (RB w (.bool false)) := by
 have HB := hid ((Below.refl w.heap.size w).alloc (Nat.le_refl _) (.cells (hdC h (.slice ba h.b.length bc) (.slice la l.length lc)) 31))
 cases hd with
 | int n hn =>
  have hwf : (Lit.int .i64 n).wf = true := by
   simp [inR] at hn
   simp [Lit.wf]
   have e1 : IntKind.i64.min = -9223372036854775808 := by decide
   have e2 : IntKind.i64.max = 9223372036854775807 := by decide
   omega
  have e1 := h1 rfl
  have e2 := h2 rfl
  rw [e1,e2] at HB ⊢
  have HR := hid (fun w => by have := refright1 n hwf w; rw [hn] at this; exact this)
  clear hn hwf h1 h2 e1 e2
  go_enter Try.func83,Try.ntmps83
  go_wp2_with fail
  refine (HR.out _).mono ?_
  rintro e w1 ⟨rfl,hb⟩
  have HB1 := hid (HB.out.trans (hb.mono HB.out.size))
  clear hb
  go_wp2_with fail
  go_ret
  exact ⟨rfl,HB1.out⟩
 | cx p q hp hq hf =>
  have e1 := h1 rfl
  have e2 := h2 rfl
  rw [e1,e2] at HB ⊢
  have HR := hid (fun w => by have := refright2 p q hp hq w; rw [hf] at this; exact this)
  clear hp hq hf h1 h2 e1 e2
  go_enter Try.func83,Try.ntmps83
  go_wp2_with fail
  refine (HR.out _).mono ?_
  rintro e w1 ⟨rfl,hb⟩
  have HB1 := hid (HB.out.trans (hb.mono HB.out.size))
  clear hb
  go_wp2_with fail
  go_ret
  exact ⟨rfl,HB1.out⟩
 | atom s hn =>
  have HR := hid (fun w => by have := name_any s w (by have := nameB_size hn; unfold maxLen; omega); rw [hn] at this; exact this)
  clear hn h1 h2
  go_enter Try.func83,Try.ntmps83
  go_wp2_with fail
  refine (HR.out _).mono ?_
  rintro e w1 ⟨rfl,hb⟩
  have HB1 := hid (HB.out.trans (hb.mono HB.out.size))
  clear hb
  go_wp2_with fail
  go_ret
  exact ⟨rfl,HB1.out⟩
 | id k node boot idn hk _ _ _ hn =>
  have HR := hid (fun w => by have := refid_any node boot idn w; rw [hn] at this; exact this)
  clear hn h1 h2
  rcases hk with rfl | rfl
  all_goals
   go_enter Try.func83,Try.ntmps83
   go_wp2_with fail
   refine (HR.out _).mono ?_
   rintro e w1 ⟨rfl,hb⟩
   have HB1 := hid (HB.out.trans (hb.mono HB.out.size))
   clear hb
   go_wp2_with fail
   go_ret
   exact ⟨rfl,HB1.out⟩
 | list k _ hk hl2 =>
  clear h1 h2
  rcases hk with rfl | rfl
  all_goals
   go_enter Try.func83,Try.ntmps83
   go_wp2_with fail
   go_ret
   exact ⟨rfl,HB.out⟩
 | bytes b =>
  clear h1 h2
  go_enter Try.func83,Try.ntmps83
  go_wp2_with fail
  go_ret
  exact ⟨rfl,HB.out⟩
theorem hd_nums {h : Hd} {l : List Tm} (hd : HdOk h l) : 1 ≤ h.kind ∧ h.kind ≤ 8 ∧ l.length ≤ 256 := by
 cases hd with
 | id k node boot idn hk _ _ _ _ => rcases hk with rfl | rfl <;> simp
 | list k _ hk hl2 => rcases hk with rfl | rfl <;> simp [hl2]
 | _ => simp
def WalkTo (rest : Nat) (t : Tm) : Prop := ∀ (F : Nat → Prop) (c : Array Value) (n : Nat) (w : World),Rep w F t c → n + sizeT t ≤ 4096 → ∀ d : Int,d = ((25 - rest : Nat) : Int) →
  Calls Try.prog 54 #[.agg c,.int .i64 d,.int .i64 (n : Int)] w (RB w (.tuple #[.int .i64 ((n + sizeT t : Nat) : Int),.int .i64 0]))
set_option maxHeartbeats 4000000 in
theorem rwalk_good : ∀ (rest : Nat) (t : Tm),rest ≤ 24 → GoodT rest t → WalkTo rest t := by
 intro rest
 induction rest with
 | zero => intro t _ h; exact absurd h (by cases t; simp [GoodT])
 | succ rest ih =>
  rintro ⟨h,l⟩ hr ⟨hd,hl⟩ F c n w hrep hsz d rfl
  have hrec : ∀ t ∈ l,∀ (F : Nat → Prop) (c : Array Value) (n : Nat) (w : World),Rep w F t c → n + sizeT t ≤ 4096 → Calls Try.prog 54 #[.agg c,.int .i64 (((25 - (rest + 1) : Nat) : Int) + 1),.int .i64 (n : Int)] w (RB w (.tuple #[.int .i64 ((n + sizeT t : Nat) : Int),.int .i64 0])) :=
   fun t ht F c n w hrep hs => ih t (by omega) (hl t ht) F c n w hrep hs _ (by omega)
  have hdeep : ((25 - (rest + 1) : Nat) : Int) ≤ 24 := by omega
  have hdeep0 : (0 : Int) ≤ ((25 - (rest + 1) : Nat) : Int) := by omega
  generalize ((25 - (rest + 1) : Nat) : Int) = deep at *
  have HRec := hid hrec
  obtain ⟨hk1,hk8,hl256⟩ := hd_nums hd
  have HRep := hid hrep
  obtain ⟨bv,lv,rfl,hb,vs,hlv,hreps⟩ := hrep
  obtain ⟨ba,bc,rfl⟩ := row_slice hb.1
  obtain ⟨la,lc,rfl⟩ := row_slice hlv.1
  have hs' : n + 1 + h.b.length + sizeTs l ≤ 4096 := by simp only [sizeT] at hsz; omega
  have HZ := hid hs'
  have hbn : (n : Int) + 1 + (h.b.length : Int) ≤ 4096 := by omega
  have hmore := fun w => more_good h l hd ba bc la lc w
  have hval := fun w => value_good h l hd ba bc la lc w (fun e => hb.2.2 e) (fun e => hlv.2.2 e)
  have HMore := hid hmore
  have HVal := hid hval
  have hE : (.tuple #[.int .i64 ((n + sizeT (.mk h l) : Nat) : Int),.int .i64 0] : Value) = .tuple #[.int .i64 ((n + 1 + h.b.length + sizeTs l : Nat) : Int),.int .i64 0] := by
   have e : n + sizeT (.mk h l) = n + 1 + h.b.length + sizeTs l := by simp only [sizeT]; omega
   rw [e]
  rw [hE]
  have HR := hid hlv
  have HS := hid hreps
  clear hE hmore hval hrec hsz hs' hb hlv hreps hd hl ih HRep
  obtain ⟨kind,nn,re,im,s,node,boot,idn,b⟩ := h
  simp only at *
  have HB1 := hid ((Below.refl w.heap.size w).alloc (Nat.le_refl _) (.cells #[.int .i64 kind,.int .i64 nn,.complex .f64 re im,.string s,.int .i64 node,.int .u32 boot,.int .u64 idn,.slice ba b.length bc,.slice la l.length lc] 31))
  have HN1 := hid (nine_new w kind nn re im s node boot idn (.slice ba b.length bc) (.slice la l.length lc) 31)
  have hlt1 : w.heap.size < (w.alloc (.cells #[.int .i64 kind,.int .i64 nn,.complex .f64 re im,.string s,.int .i64 node,.int .u32 boot,.int .u64 idn,.slice ba b.length bc,.slice la l.length lc] 31)).heap.size := by simp
  have hl256' : (l.length : Int) ≤ 256 := by omega
  go_enter Try.func54,Try.ntmps54
  go_wp2_with fail
  obtain ⟨b0,hb0⟩ : ∃ b,w.heap.size = b := ⟨_,rfl⟩
  rw [hb0] at HB1 HN1 hlt1 ⊢
  have HN := hid hb0
  clear hb0
  generalize w.alloc (.cells #[.int .i64 kind,.int .i64 nn,.complex .f64 re im,.string s,.int .i64 node,.int .u32 boot,.int .u64 idn,.slice ba b.length bc,.slice la l.length lc] 31) = w1 at *
  refine (HMore.out _).mono ?_
  rintro e w2 ⟨rfl,hb2⟩
  have HN2 := hid (HN1.out.block (hb2.block b0 hlt1))
  have HB2 := hid (HB1.out.trans (hb2.mono (Nat.le_of_lt hlt1)))
  have hlt2 : b0 < w2.heap.size := by have := hb2.size; omega
  clear hb2 HN1 HB1 hlt1 HMore
  obtain ⟨k0,k1,k2,k3,k4,k5,k6,k7,k8⟩ := HN2.out
  go_wp2_with fail
  refine (HVal.out _).mono ?_
  rintro e w3 ⟨rfl,hb3⟩
  have HN3 := hid (HN2.out.block (hb3.block b0 hlt2))
  have HB3 := hid (HB2.out.trans (hb3.mono (Nat.le_of_lt hlt2)))
  have hlt3 : b0 < w3.heap.size := by have := hb3.size; omega
  clear hb3 HN2 HB2 hlt2 HVal k0 k1 k2 k3 k4 k5 k6 k7 k8
  have k8 := HN3.out.2.2.2.2.2.2.2.2
  go_wp2_with fail
  clear k8
  go_loopw [8,9] (fun t8 t9 wr => ∃ i : Nat,i ≤ l.length ∧ t9 = .int .i64 i ∧ t8 = .int .i64 ((n + 1 + b.length + sizeTs (l.take i) : Nat) : Int) ∧ Below w3.heap.size w3 wr) (fun _ t9 _ => l.length - (intOf t9).toNat)
  case atStart => exact ⟨0,by omega,rfl,by simp [sizeTs],Below.refl _ _⟩
  case round =>
   obtain ⟨i,hi,rfl,rfl,hbr⟩ := hrel
   have k8 := (HN3.out.block (hbr.block b0 hlt3)).2.2.2.2.2.2.2.2
   have HBr := hid hbr
   clear hbr
   by_cases hlt : i < l.length
   ·obtain ⟨g,cap,hv,hg,hd,bv,pv,hrep,⟨l2,hl3⟩,h9⟩ := HR.out.nine HS.out hlt
    cases hv
    have hkeep : ∀ b,b < w.heap.size → wr.heap[b]? = w.heap[b]? := fun b hb => (HBr.out.block b (by have := HB3.out.size; have := HN.out; omega)).trans (HB3.out.block b (by have := HN.out; omega))
    have h9' := h9.block (hkeep g (cell_lt h9.1))
    have HRep := hid (Rep.keep (fun b _ hb => hkeep b hb) _ _ hrep)
    have HZ1 := hid (sizeTs_take hlt)
    have HZ2 := hid (sizeTs_le (l := l) (i + 1))
    have HM := hid (List.getElem_mem hlt)
    obtain ⟨k0,k1,k2,k3,k4,k5,k6,k7,k8'⟩ := h9'
    obtain ⟨hk,hn',hre,him,hs',hnode,hboot,hidn,hb'⟩ := hd
    obtain ⟨ba',bn',bc',rfl⟩ : ∃ a n c,bv = .slice a n c := by
     obtain ⟨bv2,pv2,e,hb2,_⟩ := hl3 ▸ hrep
     cases e
     obtain ⟨a,c,e⟩ := row_slice hb2.1
     exact ⟨a,_,c,e⟩
    obtain ⟨pa',pn',pc',rfl⟩ : ∃ a n c,pv = .slice a n c := by
     obtain ⟨bv2,pv2,e,_,vs2,hb2,_⟩ := hl3 ▸ hrep
     cases e
     obtain ⟨a,c,e⟩ := row_slice hb2.1
     exact ⟨a,_,c,e⟩
    have hlt' : (i : Int) < (l.length : Int) := by omega
    have hi0 : (0 : Int) ≤ (i : Int) := by omega
    clear h9 hkeep hrep hl3 hg
    have HRec2 := hid (fun w hw hn => HRec.out _ HM.out F #[.int .i64 hk,.int .i64 hn',.complex .f64 hre him,.string hs',.int .i64 hnode,.int .u32 hboot,.int .u64 hidn,.slice ba' bn' bc',.slice pa' pn' pc'] (n + 1 + b.length + sizeTs (l.take i)) w hw hn)
    have HSm := hid (show n + 1 + b.length + sizeTs (l.take i) + sizeT l[i] = n + 1 + b.length + sizeTs (l.take (i + 1)) by have := HZ1.out; omega)
    have HSn := hid (show n + 1 + b.length + sizeTs (l.take i) + sizeT l[i] ≤ 4096 by have := HZ.out; have := HZ1.out; have := HZ2.out; omega)
    have HRA := hid (HRec2.out _ HRep.out HSn.out)
    rw [HSm.out] at HRA
    clear HRec2 HRec
    obtain ⟨q,hq⟩ : ∃ q : Nat,n + 1 + b.length + sizeTs (l.take i) = q := ⟨_,rfl⟩
    obtain ⟨q2,hq2⟩ : ∃ q : Nat,n + 1 + b.length + sizeTs (l.take (i + 1)) = q := ⟨_,rfl⟩
    rw [hq2] at HRA
    rw [hq] at HRA ⊢
    have HQ2 := hid hq2
    clear hq2 hq HS HR
    go_wp2_with fail
    refine HRA.out.mono ?_
    rintro e w9 ⟨rfl,hb9⟩
    have HB9 := hid (HBr.out.trans (hb9.mono HBr.out.size))
    clear hb9 k0 k1 k2 k3 k4 k5 k6 k7 k8' k8
    go_wp2_with fail
    go_round
    case rel => exact ⟨i + 1,by omega,by go_num,by rw [HQ2.out],HB9.out⟩
    case measure => simp [intOf]; omega
   ·obtain rfl : i = l.length := by omega
    have HFin := hid (show n + 1 + b.length + sizeTs (l.take l.length) = n + 1 + b.length + sizeTs l by rw [List.take_length])
    rw [HFin.out]
    generalize n + 1 + b.length + sizeTs l = q at *
    go_wp2_with fail
    go_ret2
    exact ⟨rfl,HN.out ▸ (HB3.out.trans (HBr.out.mono (Nat.le_of_lt hlt3)))⟩
theorem rcheck_good (t : Tm) (ht : GoodT 24 t) (hsz : sizeT t ≤ 4096) (F : Nat → Prop) (c : Array Value) (w : World) (hrep : Rep w F t c) : Calls Try.prog 35 #[.agg c] w (RB w (.int .i64 0)) := by
 have hB := (Below.refl w.heap.size w).alloc (Nat.le_refl _) (.cells c 31)
 have HW := hid (rwalk_good 24 t (by omega) ht F c 0 (w.alloc (.cells c 31)) (Rep.keep (fun b _ hb => hB.block b hb) _ _ hrep) (by omega) 1 rfl)
 have HB := hid hB
 clear hB
 obtain ⟨hd,l⟩ := t
 obtain ⟨bv,lv,rfl,hb,vs,hlv,_⟩ := hrep
 obtain ⟨a1,c1,rfl⟩ := row_slice hb.1
 obtain ⟨a2,c2,rfl⟩ := row_slice hlv.1
 clear hb hlv ht hsz
 go_enter Try.func35,Try.ntmps35
 go_wp2_with fail
 refine HW.out.mono ?_
 rintro e w1 ⟨rfl,hb1⟩
 have HB1 := hid (HB.out.trans (hb1.mono HB.out.size))
 clear hb1
 go_wp2_with fail
 go_ret
 exact ⟨rfl,HB1.out⟩
end Go.Proofs.Ytgadkiljnebicaa
