/- Several texts in one. -/
import Derived.Test.YtgadkiljnebicaaD37
import Derived.Deep.RegionHeld3
namespace Go.Proofs.Ytgadkiljnebicaa
open Go.Lib (hid)
open Go.RowKit
set_option maxRecDepth 100000
structure QV (X Y Z T V : Nat) (xc tc vc : Array Value) (w wr : World) : Prop where
 q : QAt X Y Z T xc tc w wr
 vb : wr.heap[V]? = some (.cells vc 80 (0,0))
 tv : T < V
theorem QAt.newV {X Y Z T : Nat} {xc tc : Array Value} {w wr : World} (h : QAt X Y Z T xc tc w wr) (vc : Array Value) : QV X Y Z T wr.heap.size xc tc vc w (wr.alloc (.cells vc 80)) :=
 ⟨h.alloc _,heap_new wr _,blk_lt h.tb⟩
theorem QV.call {X Y Z T V : Nat} {xc tc vc : Array Value} {w wr w' : World} (h : QV X Y Z T V xc tc vc w wr) (hb : Below wr.heap.size wr w') : QV X Y Z T V xc tc vc w w' :=
 ⟨h.q.call hb,(hb.block V (blk_lt h.vb)).trans h.vb,h.tv⟩
theorem QV.rowV {X Y Z T V : Nat} {xc tc vc : Array Value} {w wr : World} (h : QV X Y Z T V xc tc vc w wr) (vc' : Array Value) : QV X Y Z T V xc tc vc' w (wr.setRow V vc') :=
 ⟨h.q.turn (setRow_turn wr V vc') (fun i e => by rw [e]; exact h.tv),setRow_heap wr V vc vc' _ _ h.vb,h.tv⟩
def Stt (bs : List UInt8) (nms : List ByteArray) (i n code : Int) (bad : Int → Prop) (good : St → Prop) : Prop :=
 (¬ code = 0 ∧ bad code) ∨ (code = 0 ∧ ∃ s,i = s.i ∧ n = s.n ∧ s.names = nms ∧ s.i ≤ bs.length ∧ s.n ≤ 4097 ∧ good s)
theorem rwide_st (ba : Option Addr) (bc : Nat) (bs : List UInt8) (na : Option Addr) (nc : Nat) (nms : List ByteArray) (i n code : Int) (bad : Int → Prop) (good : St → Prop) (w : World) (hs : Sl w (.slice ba bs.length bc) (bs.map cellB)) (hm : Strs w (.slice na nms.length nc) nms) (hl : bs.length ≤ 131072) (h : Stt bs nms i n code bad good) :
  Calls Try.prog 48 #[stV ba bs.length bc i n na nms.length nc code] w (fun e w' => ∃ (i2 n2 code2 : Int) (q : Nat),e = .returned (.tuple #[stV ba bs.length bc i2 n2 na nms.length nc code2,.int .u64 (q : Nat)]) ∧ q < 18446744073709551616 ∧ Below w.heap.size w w' ∧
   Stt bs nms i2 n2 code2 (fun c => bad c ∨ ∃ s,good s ∧ wideN bs s = .error c) (fun s' => ∃ s,good s ∧ wideN bs s = .ok (q,s'))) := by
 rcases h with ⟨hc,hb⟩ | ⟨rfl,s,rfl,rfl,rfl,hi,hn,hg⟩
 ·refine (rwide_e ba bs.length bc i n na nms.length nc code hc w).mono ?_
  rintro e w' ⟨rfl,hb2⟩
  exact ⟨i,n,code,0,rfl,by decide,hb2,.inl ⟨hc,.inl hb⟩⟩
 ·refine (rwide_any ba bc bs s na nc w ⟨hs,hm,hl,hi,hn⟩).mono ?_
  intro e w' hr
  obtain ⟨i2,n2,c2,q,rfl,hq,hb2,hO⟩ := rp1_gen hr (fun x hx => by rcases wideN_err hx with h | h <;> omega) (fun y hy => wideN_lt hy)
  refine ⟨i2,n2,c2,q,rfl,hq,hb2,?_⟩
  rcases hO with ⟨h1,h2⟩ | ⟨h1,s',h2,h3,h4⟩
  ·exact .inl ⟨h1,.inr ⟨s,hg,h2⟩⟩
  ·have hw := wide_names _ _ _ _ _ _ h2
   exact .inr ⟨h1,s',h3,h4,hw.1,wideN_ile h2,by rw [hw.2.1]; exact hn,s,hg,h2⟩
theorem rone_st (ba : Option Addr) (bc : Nat) (bs : List UInt8) (na : Option Addr) (nc : Nat) (s : St) (w : World) (h : RfAt w ba bc bs s na nc) :
  Calls Try.prog 30 #[stV ba bs.length bc s.i s.n na s.names.length nc 0] w (fun e w' => ∃ (i2 n2 code2 : Int) (q : Nat),e = .returned (.tuple #[stV ba bs.length bc i2 n2 na s.names.length nc code2,.int .u8 (q : Nat)]) ∧ q < 256 ∧ Below w.heap.size w w' ∧
   Stt bs s.names i2 n2 code2 (fun c => oneP bs s = .error c) (fun s' => oneP bs s = .ok (q,s'))) := by
 refine (rone_any ba bc bs s na nc w h).mono ?_
 intro e w' hr
 cases ho : oneP bs s with
 | error x =>
  rw [ho] at hr
  obtain ⟨i,n,u,he,rfl,hb⟩ := hr
  have hx : x = 72 := by
   unfold oneP at ho
   split at ho
   ·cases ho
   ·cases ho; rfl
  exact ⟨i,n,x,0,he,by decide,hb,.inl ⟨by omega,rfl⟩⟩
 | ok y =>
  obtain ⟨c,s'⟩ := y
  rw [ho] at hr
  obtain ⟨he,hb⟩ := hr
  obtain ⟨h1,h2,h3⟩ := oneP_ok ho
  exact ⟨s'.i,s'.n,0,c,he,h1,hb,.inr ⟨rfl,s',rfl,rfl,by rw [h2],by rw [h2]; exact h3,by rw [h2]; exact h.nle,rfl⟩⟩
theorem rmust_st {bs : List UInt8} {nms : List ByteArray} {i n code : Int} {bad bad' : Int → Prop} {good good' : St → Prop} {b : Bool} (h : Stt bs nms i n code bad good) (hb : ∀ c,bad c → bad' c) (hg : ∀ s,b = true → good s → good' s) (hf : b = false → ∀ s,good s → bad' 73) :
  Stt bs nms i n (if b = true then code else if code = 0 then 73 else code) bad' good' := by
 rcases h with ⟨hc,h1⟩ | ⟨rfl,s,h1,h2,h3,h4,h5,h6⟩
 ·left
  cases b <;> simp [hc,hb _ h1]
 ·cases hbb : b
  ·exact .inl ⟨by simp,by simpa using hf hbb s h6⟩
  ·exact .inr ⟨by simp,s,h1,h2,h3,h4,h5,hg s hbb h6⟩
theorem Stt.map {bs : List UInt8} {nms : List ByteArray} {i n code : Int} {bad bad' : Int → Prop} {good good' : St → Prop} (h : Stt bs nms i n code bad good) (hb : ∀ c,bad c → bad' c) (hg : ∀ s,good s → good' s) : Stt bs nms i n code bad' good' := by
 rcases h with ⟨hc,h1⟩ | ⟨hc,s,h1,h2,h3,h4,h5,h6⟩
 ·exact .inl ⟨hc,hb _ h1⟩
 ·exact .inr ⟨hc,s,h1,h2,h3,h4,h5,hg s h6⟩
def idP (bs : List UInt8) (k : Nat) (s1 : St) : Except Int (Tm × St) :=
 match oneP bs s1 with
 | .error e => .error e
 | .ok (node,s) =>
  match wideN bs s with
  | .error e => .error e
  | .ok (boot,s) =>
   if 4294967295 < boot then .error 73
   else match wideN bs s with
    | .error e => .error e
    | .ok (idn,s) => if idOk node boot idn = true then .ok (.mk { kind := k,node := node,boot := boot,idn := idn } [],s) else .error 73
theorem kind4 (bs : List UInt8) (sub : Rd Tm) (s : St) : kindP bs sub 4 s = idP bs 4 s := rfl
theorem kind5 (bs : List UInt8) (sub : Rd Tm) (s : St) : kindP bs sub 5 s = idP bs 5 s := rfl
theorem id_e1 {bs : List UInt8} {k : Nat} {s1 : St} {c : Int} (h : oneP bs s1 = .error c) : idP bs k s1 = .error c := by simp [idP,h]
theorem id_e2 {bs : List UInt8} {k : Nat} {s1 s2 : St} {node : Nat} {c : Int} (h : oneP bs s1 = .ok (node,s2)) (h2 : wideN bs s2 = .error c) : idP bs k s1 = .error c := by simp [idP,h,h2]
theorem id_e3 {bs : List UInt8} {k : Nat} {s1 s2 s3 : St} {node boot : Nat} (h : oneP bs s1 = .ok (node,s2)) (h2 : wideN bs s2 = .ok (boot,s3)) (h3 : 4294967295 < boot) : idP bs k s1 = .error 73 := by simp [idP,h,h2,h3]
theorem id_e4 {bs : List UInt8} {k : Nat} {s1 s2 s3 : St} {node boot : Nat} {c : Int} (h : oneP bs s1 = .ok (node,s2)) (h2 : wideN bs s2 = .ok (boot,s3)) (h3 : ¬ 4294967295 < boot) (h4 : wideN bs s3 = .error c) : idP bs k s1 = .error c := by simp [idP,h,h2,h3,h4]
theorem id_e5 {bs : List UInt8} {k : Nat} {s1 s2 s3 s4 : St} {node boot idn : Nat} (h : oneP bs s1 = .ok (node,s2)) (h2 : wideN bs s2 = .ok (boot,s3)) (h3 : ¬ 4294967295 < boot) (h4 : wideN bs s3 = .ok (idn,s4)) (h5 : idOk node boot idn = false) : idP bs k s1 = .error 73 := by simp [idP,h,h2,h3,h4,h5]
theorem id_ok {bs : List UInt8} {k : Nat} {s1 s2 s3 s4 : St} {node boot idn : Nat} (h : oneP bs s1 = .ok (node,s2)) (h2 : wideN bs s2 = .ok (boot,s3)) (h3 : ¬ 4294967295 < boot) (h4 : wideN bs s3 = .ok (idn,s4)) (h5 : idOk node boot idn = true) : idP bs k s1 = .ok (.mk { kind := k,node := node,boot := boot,idn := idn } [],s4) := by simp [idP,h,h2,h3,h4,h5]
end Go.Proofs.Ytgadkiljnebicaa
namespace Go.Proofs.Ytgadkiljnebicaa
open Go.Lib (hid)
open Go.RowKit
set_option maxRecDepth 100000
attribute [local go_sem] run_store_complex
set_option maxHeartbeats 4000000 in
theorem rq6 (ba : Option Addr) (bc : Nat) (bs : List UInt8) (s s1 : St) (sub : Rd Tm) (na : Option Addr) (nc : Nat) (d : Int) (hd : d ≤ 24) (w : World) (h : RfAt w ba bc bs s na nc) (hn : s.n + 1 ≤ 4096) (ho : oneP bs { s with n := s.n + 1 } = .ok (6,s1)) (hnm : s.names.length ≤ s.n) (hd0 : 1 ≤ d)
  (hse : ∀ s x,sub s = .error x → ¬ x = 0)
  (hsn : ∀ s t s',s.i ≤ bs.length → s.n ≤ 4097 → s.names.length ≤ s.n → sub s = .ok (t,s') → s'.i ≤ bs.length ∧ s'.n ≤ 4097 ∧ s'.names.length ≤ s'.n)
  (hsub : ∀ (na : Option Addr) (nc : Nat) (s : St) (w : World),RfAt w ba bc bs s na nc → s.names.length ≤ s.n → Calls Try.prog 32 #[stV ba bs.length bc s.i s.n na s.names.length nc 0,.int .i64 (d + 1)] w (RPT ba bs.length bc na s.names w (sub s))) :
  Calls Try.prog 32 #[stV ba bs.length bc s.i s.n na s.names.length nc 0,.int .i64 d] w (RPT ba bs.length bc na s.names w (kindP bs sub 6 s1)) := by
 have H := hid h
 have HO := hid ho
 have HS1 := hid (oneP_ok ho).2
 have HN1 := hid (show s1.n = s.n + 1 by rw [HS1.out.1])
 have HNM1 := hid (show s1.names = s.names by rw [HS1.out.1])
 have HI1 := hid (show s1.i ≤ bs.length by rw [HS1.out.1]; exact HS1.out.2)
 have hn' : (s.n : Int) + 1 ≤ 4096 := by omega
 have HSE := hid hse
 have HSN := hid hsn
 have HSub := hid hsub
 have HNm := hid hnm
 have hwd : IntKind.i64.wrap (d + 1) = d + 1 := IntWalk.i64_in _ (by omega)
 clear h ho hse hsn hsub hnm
 go_enter Try.func32,Try.ntmps32
 go_wp2_with fail
 obtain ⟨hX1,hY1,hZ1,hB1⟩ := heap_new3 (w := w) (o1 := .cells #[.slice ba bs.length bc,.int .i64 (s.i : Int),.int .i64 ((s.n : Int) + 1),.slice na s.names.length nc,.int .i64 0] 80) (o2 := .cells #[nilV,.int .i64 0,.int .i64 0,nilV,.int .i64 0] 80) (o3 := .cells #[.int .i64 0,.int .i64 0,.complex .f64 0 0,.string ⟨#[]⟩,.int .i64 0,.int .u32 0,.int .u64 0,nilV,nilV] 31)
 have HX1 := hid hX1
 have HY1 := hid hY1
 have HZ1 := hid hZ1
 have HB1 := hid hB1
 clear hX1 hY1 hZ1 hB1
 generalize ((w.alloc (.cells #[.slice ba bs.length bc,.int .i64 (s.i : Int),.int .i64 ((s.n : Int) + 1),.slice na s.names.length nc,.int .i64 0] 80)).alloc (.cells #[nilV,.int .i64 0,.int .i64 0,nilV,.int .i64 0] 80)).alloc (.cells #[.int .i64 0,.int .i64 0,.complex .f64 0 0,.string ⟨#[]⟩,.int .i64 0,.int .u32 0,.int .u64 0,nilV,nilV] 31) = w1 at *
 have hXY : w.heap.size < w.heap.size + 1 := by omega
 have hYZ : w.heap.size + 1 < w.heap.size + 1 + 1 := by omega
 generalize w.heap.size + 1 + 1 = Zb at *
 generalize w.heap.size + 1 = Yb at *
 obtain ⟨Xb,hXb⟩ : ∃ X,w.heap.size = X := ⟨_,rfl⟩
 rw [hXb] at HX1 HB1 hXY ⊢
 have HN := hid hXb
 have HRf1 := hid (show RfAt w1 ba bc bs { s with n := s.n + 1 } na nc from ⟨H.out.src.below (HN.out ▸ HB1.out),H.out.nms.below (HN.out ▸ HB1.out),H.out.len,H.out.ile,by show s.n + 1 ≤ 4097; omega⟩)
 have H1 := rone_any ba bc bs { s with n := s.n + 1 } na nc w1 HRf1.out
 rw [HO.out] at H1
 clear hXb
 refine H1.mono ?_
 rintro e w2 ⟨rfl,hb⟩
 clear H1 HRf1
 have HX2 := hid ((hb.block _ (blk_lt HX1.out)).trans HX1.out)
 have HY2 := hid ((hb.block _ (blk_lt HY1.out)).trans HY1.out)
 have HZ2 := hid ((hb.block _ (blk_lt HZ1.out)).trans HZ1.out)
 have HB2 := hid (HB1.out.trans (hb.mono (bsz HN.out HB1.out)))
 clear hb HB1 HX1 HY1 HZ1
 obtain ⟨k0,k1,k2,k3,k4⟩ := FiveAt.of_block HX2.out
 have kf := blk_fz HX2.out
 go_upto_region 7 with fail
 clear k0 k1 k2 k3 k4 kf
 have HX3 := hid (five_set HX2.out (d0 := .slice ba bs.length bc) (d1 := .int .i64 (s1.i : Int)) (d2 := .int .i64 (s1.n : Int)) (d3 := .slice na s.names.length nc) (d4 := .int .i64 0))
 have hTs := five_turn w2 (Xb) (.slice ba bs.length bc) (.int .i64 (s1.i : Int)) (.int .i64 (s1.n : Int)) (.slice na s.names.length nc) (.int .i64 0)
 have HY3 := hid ((hTs.block (Yb) (blk_lt HY2.out) (by omega)).trans HY2.out)
 have HZ3 := hid ((hTs.block (Zb) (blk_lt HZ2.out) (by omega)).trans HZ2.out)
 have HB3 := hid (HB2.out.trans (hTs.below (bsz HN.out HB2.out) (fun i e => by omega)))
 clear hTs HB2 HX2 HY2 HZ2
 simp only [set5] at HX3 HY3 HZ3 HB3
 generalize ((((w2.setCell ⟨Xb,0,none⟩ (.slice ba bs.length bc)).setCell ⟨Xb,1,none⟩ (.int .i64 (s1.i : Int))).setCell ⟨Xb,2,none⟩ (.int .i64 (s1.n : Int))).setCell ⟨Xb,3,none⟩ (.slice na s.names.length nc)).setCell ⟨Xb,4,none⟩ (.int .i64 0) = w3 at *
 have hT := Below.heap_alloc w3 (.cells #[.int .i64 6,.int .i64 0,.complex .f64 0 0,.string ⟨#[]⟩,.int .i64 0,.int .u32 0,.int .u64 0,nilV,nilV] 31)
 have HX4 := hid ((hT _ (blk_lt HX3.out)).trans HX3.out)
 have HY4 := hid ((hT _ (blk_lt HY3.out)).trans HY3.out)
 have HZ4 := hid ((hT _ (blk_lt HZ3.out)).trans HZ3.out)
 have HT4 := hid (heap_new w3 (.cells #[.int .i64 6,.int .i64 0,.complex .f64 0 0,.string ⟨#[]⟩,.int .i64 0,.int .u32 0,.int .u64 0,nilV,nilV] 31))
 have HB4 := hid (HB3.out.alloc (bsz HN.out HB3.out) (.cells #[.int .i64 6,.int .i64 0,.complex .f64 0 0,.string ⟨#[]⟩,.int .i64 0,.int .u32 0,.int .u64 0,nilV,nilV] 31))
 have hTN : Zb < w3.heap.size := blk_lt HZ3.out
 obtain ⟨k0,k1,k2,k3,k4⟩ := FiveAt.of_block HX4.out
 go_wp2_with fail
 clear hT HX3 HY3 HZ3 HB3 k0 k1 k2 k3 k4
 generalize w3.alloc (.cells #[.int .i64 6,.int .i64 0,.complex .f64 0 0,.string ⟨#[]⟩,.int .i64 0,.int .u32 0,.int .u64 0,nilV,nilV] 31) = w4 at *
 generalize w3.heap.size = T at *
 have HRf := hid (show RfAt w4 ba bc bs s1 na nc from ⟨H.out.src.below (HN.out ▸ HB4.out),by rw [HNM1.out]; exact H.out.nms.below (HN.out ▸ HB4.out),H.out.len,HI1.out,by rw [HN1.out]; omega⟩)
 have H1 := rwide_any ba bc bs s1 na nc w4 HRf.out
 rw [HNM1.out] at H1
 have H1 := hid H1
 have HQ := hid (show QAt Xb Yb Zb T #[.slice ba bs.length bc,.int .i64 (s1.i : Int),.int .i64 (s1.n : Int),.slice na s.names.length nc,.int .i64 0] (lC 6 nilV) w w4 from ⟨HX4.out,HY4.out,HZ4.out,HT4.out,HB4.out,hXY,hYZ,hTN⟩)
 clear HRf HX4 HY4 HZ4 HT4 HB4
 refine H1.out.mono ?_
 rintro e w5 hr
 obtain ⟨i',n',code,q,rfl,hq64,hb,hO⟩ := rp1_gen hr (fun x hx => by rcases wideN_err hx with h | h <;> omega) (fun y hy => wideN_lt hy)
 have HO1 := hid hO
 have HQ5 := hid (HQ.out.call hb)
 clear hr hb hO HQ H1
 have HQ6 := hid (HQ5.out.alloc (.cells #[.slice ba bs.length bc,.int .i64 i',.int .i64 n',.slice na s.names.length nc,.int .i64 code] 80))
 have HV6 := hid (heap_new w5 (.cells #[.slice ba bs.length bc,.int .i64 i',.int .i64 n',.slice na s.names.length nc,.int .i64 code] 80))
 go_upto_region 39 with fail
 clear HQ5
 generalize w5.alloc (.cells #[.slice ba bs.length bc,.int .i64 i',.int .i64 n',.slice na s.names.length nc,.int .i64 code] 80) = w6 at *
 generalize w5.heap.size = V at *
 obtain ⟨b,hb1,hb2⟩ : ∃ b : Bool,decide (q ≤ 256) = b ∧ decide ((q : Int) ≤ 256) = b := ⟨_,rfl,decide_eq_decide.2 (by omega)⟩
 have HBq := hid (show b = true ↔ q ≤ 256 by rw [← hb1]; simp)
 obtain ⟨code2,hc2⟩ : ∃ c : Int,(if b = true then code else if code = 0 then 73 else code) = c := ⟨_,rfl⟩
 have HMu := hid (fun w => hc2 ▸ rmust_any ba bs.length bc i' n' na s.names.length nc code b w)
 have HO2 := hid (show (¬ code2 = 0 ∧ kindP bs sub 6 s1 = .error code2) ∨ (code2 = 0 ∧ ∃ s2,wideN bs s1 = .ok (q,s2) ∧ q ≤ 256 ∧ i' = s2.i ∧ n' = s2.n) from by
  rcases HO1.out with ⟨h1,h2⟩ | ⟨h1,s2,h2,h3,h4⟩
  ·have e : code2 = code := by rw [← hc2]; split <;> simp_all
   rw [e]
   exact .inl ⟨h1,by simp [kindP,h2]⟩
  ·by_cases hq : q ≤ 256
   ·have e : code2 = 0 := by rw [← hc2,if_pos (HBq.out.2 hq)]; exact h1
    exact .inr ⟨e,s2,h2,hq,h3,h4⟩
   ·have hbf : ¬ b = true := fun e => hq (HBq.out.1 e)
    have e : code2 = 73 := by rw [← hc2,if_neg hbf,if_pos h1]
    rw [e]
    exact .inl ⟨by decide,by simp [kindP,h2]; omega⟩)
 clear hc2 HO1 HBq
 obtain ⟨k0,k1,k2,k3,k4⟩ := FiveAt.of_block HV6.out
 go_wp2_with fail
 clear hb1 hb2 k0 k1 k2 k3 k4
 refine (HMu.out _).mono ?_
 rintro e w7 ⟨rfl,hb⟩
 have HQ7 := hid (HQ6.out.call hb)
 clear hb HQ6 HV6 HMu
 go_upto_region 40 with (refine wpList_store_row rfl 80 (.tmp 2) (.tmp 158) rfl Xb #[.slice ba bs.length bc,.int .i64 i',.int .i64 n',.slice na s.names.length nc,.int .i64 code2] rfl rfl 80 #[.slice ba bs.length bc,.int .i64 (s1.i : Int),.int .i64 (s1.n : Int),.slice na s.names.length nc,.int .i64 0] HQ7.out.xb infoS rfl (by simp [Array.all,Value.oneCell']) ?_)
 have HQ8 := hid (HQ7.out.rowX #[.slice ba bs.length bc,.int .i64 i',.int .i64 n',.slice na s.names.length nc,.int .i64 code2])
 clear HQ7
 generalize w7.setRow Xb #[.slice ba bs.length bc,.int .i64 i',.int .i64 n',.slice na s.names.length nc,.int .i64 code2] = w8 at *
 obtain ⟨i0,hi,hz0,hz1,hz2⟩ := info_parts infoTm
 have X1 := hid hi
 have X2 := hid hz0
 have X3 := hid hz1
 have X4 := hid hz2
 clear hi hz0 hz1 hz2
 obtain ⟨ks2,hks⟩ : ∃ s2 : St,∀ s',wideN bs s1 = .ok (q,s') → s' = s2 := by
  cases hw : wideN bs s1 with
  | error x => exact ⟨s1,fun s' h => by cases h⟩
  | ok y => exact ⟨y.2,fun s' h => by cases h; rfl⟩
 have HKs := hid hks
 clear hks
 have HL0 := hid (show QL Xb Yb Zb T 0 6 #[.slice ba bs.length bc,.int .i64 i',.int .i64 n',.slice na s.names.length nc,.int .i64 code2] none 0 [] w w8 from ⟨HQ8.out,fun _ => rfl,World.ownsRow_nil _ _ _ _⟩)
 have HO3 := hid (show QO Xb T 0 q sub ks2 q na s.names bs i' n' na s.names.length nc code2 none 0 [] w8 (fun c => kindP bs sub 6 s1 = .error c) (wideN bs s1 = .ok (q,ks2) ∧ q ≤ 256) from by
  rcases HO2.out with ⟨h1,h2⟩ | ⟨h1,s2,h2,h3,h4,h5⟩
  ·exact .inl ⟨h1,h2⟩
  ·have e := HKs.out _ h2
   subst e
   have hs2 := wide_names _ _ _ _ _ _ h2
   have hn2 : s2.names = s.names := hs2.1.trans HNM1.out
   refine .inr ⟨h1,rfl,⟨h2,h3⟩,s2,[],[],⟨h4,h5,by rw [hn2],rfl,rfl,Nat.zero_le _,rfl,?_,?_,.inl ⟨rfl,hn2⟩,wideN_ile h2,by rw [hs2.2.1,HN1.out]; omega,by rw [hn2,hs2.2.1,HN1.out]; have := HNm.out; omega,by rw [Nat.sub_zero]; cases manyP sub q s2 with | error e => rfl | ok y => rfl⟩⟩
   ·rw [hn2]
    exact H.out.nms.below (HN.out ▸ HQ8.out.below)
   ·intro hp b e
    refine ⟨.inl ?_,fun e2 => by cases e2⟩
    have := H.out.nms.lt hp e
    have := HN.out
    omega)
 clear HQ8 HO2
 go_wp2_with fail
 go_loopw [18] (fun t18 wr => ∃ (j : Nat) (i n : Int) (na' : Option Addr) (nl' nc' : Nat) (cd : Int) (a : Option Addr) (c : Nat) (xs : List Value),t18 = .int .u64 j ∧ QL Xb Yb Zb T j 6 #[.slice ba bs.length bc,.int .i64 i,.int .i64 n,.slice na' nl' nc',.int .i64 cd] a c xs w wr ∧ QO Xb T j q sub ks2 q na s.names bs i n na' nl' nc' cd a c xs wr (fun c => kindP bs sub 6 s1 = .error c) (wideN bs s1 = .ok (q,ks2) ∧ q ≤ 256)) (fun t18 _ => q - (intOf t18).toNat)
 case atStart => exact ⟨0,i',n',na,s.names.length,nc,code2,none,0,[],rfl,HL0.out,HO3.out⟩
 case round =>
  obtain ⟨j,i,n,na',nl',nc',cd,a,c,xs,rfl,hL,hO⟩ := hrel
  have HL := hid hL
  have HOo := hid hO
  clear hL hO HL0 HO3
  by_cases hgo : (j : Int) < (q : Int) ∧ cd = 0
  ·obtain ⟨hj,rfl⟩ := hgo
   obtain ⟨sj,l,vs,hG,hgd⟩ : ∃ sj l vs,QG Xb T j q sub ks2 na s.names bs i n na' nl' nc' a c xs wr sj l vs ∧ (wideN bs s1 = .ok (q,ks2) ∧ q ≤ 256) := by
    rcases HOo.out with ⟨h0,_⟩ | ⟨_,_,hg,sj,l,vs,h⟩
    ·exact absurd rfl h0
    ·exact ⟨sj,l,vs,h,hg⟩
   have HG := hid hG
   have HGd := hid hgd
   obtain rfl := hG.ei
   obtain rfl := hG.en
   obtain rfl := hG.enl
   have hq256 : q ≤ 256 := hgd.2
   clear hG hgd HOo
   have hw1 : IntKind.u64.wrap ((j : Int) + 1) = (j : Int) + 1 := wraps_u64 _ (by omega) (by omega)
   have H1 := HSub.out na' nc' sj wr ⟨H.out.src.below (HN.out ▸ HL.out.q.below),HG.out.strs,H.out.len,HG.out.ile,HG.out.nle⟩ HG.out.nms
   have H1 := hid H1
   obtain ⟨k0,k1,k2,k3,k4⟩ := FiveAt.of_block HL.out.q.xb
   go_wp2_with fail
   clear k0 k1 k2 k3 k4
   refine H1.out.mono ?_
   rintro e w5 hr
   obtain ⟨i2,n2,na2,nl2,nc2,cd2,q0,q1,q2,q3,q4,q5,q6,q7,q8,q9,q10,q11,q12,q13,rfl,hb5,hP⟩ := rpt_gen hr (HSE.out sj)
   have HB5 := hid hb5
   have HP := hid hP
   have HL5 := hid (HL.out.call hb5)
   clear hr hb5 hP H1
   have hn1 := hid (two_new1 (w5 := w5) (o1 := sZ) (o2 := zC) (t1 := 80) (t2 := 31))
   have hn2 := hid (two_new2 (w5 := w5) (o1 := sZ) (o2 := zC) (t1 := 80) (t2 := 31) (zc := #[.slice ba bs.length bc,.int .i64 i2,.int .i64 n2,.slice na2 nl2 nc2,.int .i64 cd2]))
   go_upto_region 44 with (first
    | (refine wpList_store_row rfl 80 (.tmp 19) (.tmp 174) rfl w5.heap.size #[.slice ba bs.length bc,.int .i64 i2,.int .i64 n2,.slice na2 nl2 nc2,.int .i64 cd2] rfl rfl 80 sZ hn1.out infoS rfl (by simp [Array.all,Value.oneCell']) ?_)
    | (refine wpList_store_row rfl 31 (.tmp 20) (.tmp 175) rfl (w5.heap.size + 1) #[.int .i64 q0,.int .i64 q1,.complex .f64 q2 q3,.string q4,.int .i64 q5,.int .u32 q6,.int .u64 q7,.slice q8 q9 q10,.slice q11 q12 q13] rfl rfl 31 zC hn2.out infoT9' rfl (by simp [Array.all,Value.oneCell']) ?_))
   obtain ⟨hzb,hpb,hb6⟩ := two_new (w5 := w5) (o1 := sZ) (o2 := zC) (zc := #[.slice ba bs.length bc,.int .i64 i2,.int .i64 n2,.slice na2 nl2 nc2,.int .i64 cd2]) (pc := #[.int .i64 q0,.int .i64 q1,.complex .f64 q2 q3,.string q4,.int .i64 q5,.int .u32 q6,.int .u64 q7,.slice q8 q9 q10,.slice q11 q12 q13]) (t1 := 80) (t2 := 31)
   have HZB := hid hzb
   have HPB := hid hpb
   have HB6 := hid hb6
   have HL6 := hid (HL5.out.call hb6)
   clear hn1 hn2 hzb hpb hb6 HL5
   generalize (((w5.alloc (.cells sZ 80)).alloc (.cells zC 31)).setRow w5.heap.size #[.slice ba bs.length bc,.int .i64 i2,.int .i64 n2,.slice na2 nl2 nc2,.int .i64 cd2]).setRow (w5.heap.size + 1) #[.int .i64 q0,.int .i64 q1,.complex .f64 q2 q3,.string q4,.int .i64 q5,.int .u32 q6,.int .u64 q7,.slice q8 q9 q10,.slice q11 q12 q13] = w6 at *
   have HS5 := hid (show w5.heap.size ≤ w6.heap.size from HB6.out.size)
   have hXl : Xb < w5.heap.size := by have := HB5.out.size; have := blk_lt HL.out.q.xb; omega
   have hXz : ¬ w5.heap.size = Xb := by omega
   have hXp : ¬ w5.heap.size + 1 = Xb := by omega
   obtain ⟨zB,hzB⟩ : ∃ z,w5.heap.size = z := ⟨_,rfl⟩
   rw [hzB] at hXl hXz hXp HZB HPB ⊢
   have HzB := hid hzB
   clear hzB
   obtain ⟨k0,k1,k2,k3,k4⟩ := FiveAt.of_block HZB.out
   go_upto_region 45 with (refine wpList_store_row rfl 80 (.tmp 2) (.tmp 176) rfl Xb #[.slice ba bs.length bc,.int .i64 i2,.int .i64 n2,.slice na2 nl2 nc2,.int .i64 cd2] rfl rfl 80 #[.slice ba bs.length bc,.int .i64 (sj.i : Int),.int .i64 (sj.n : Int),.slice na' sj.names.length nc',.int .i64 0] HL6.out.q.xb infoS rfl (by simp [Array.all,Value.oneCell']) ?_)
   have HL7 := hid (HL6.out.rowX #[.slice ba bs.length bc,.int .i64 i2,.int .i64 n2,.slice na2 nl2 nc2,.int .i64 cd2])
   have HT57 := hid ((Turn.of_below (S := fun i => i = Xb) HB6.out).trans (setRow_turn w6 Xb #[.slice ba bs.length bc,.int .i64 i2,.int .i64 n2,.slice na2 nl2 nc2,.int .i64 cd2]))
   have HPB7 := hid ((setRow_other w6 Xb (zB + 1) #[.slice ba bs.length bc,.int .i64 i2,.int .i64 n2,.slice na2 nl2 nc2,.int .i64 cd2] hXp).trans HPB.out)
   clear HL6 HZB HPB k0 k1 k2 k3 k4 hXl hXz hXp
   generalize w6.setRow Xb #[.slice ba bs.length bc,.int .i64 i2,.int .i64 n2,.slice na2 nl2 nc2,.int .i64 cd2] = w7 at *
   obtain ⟨p0,p1,p2,p3,p4,p5,p6,p7,p8⟩ := NineAt.of_block HPB7.out
   have x8 := (NineAt.of_block HL7.out.q.tb).2.2.2.2.2.2.2.2
   have HTl := hid (blk_lt HL7.out.q.tb)
   have HM1 := hid (show j + 1 ≤ maxLen by unfold maxLen; omega)
   have HMB := hid (show (j + 1) * 120 ≤ 140737488355328 by omega)
   have HB7 := hid (show T + 1 ≤ (w7.alloc (.cells #[.int .i64 q0,.int .i64 q1,.complex .f64 q2 q3,.string q4,.int .i64 q5,.int .u32 q6,.int .u64 q7,.slice q8 q9 q10,.slice q11 q12 q13] 31)).heap.size by have := HTl.out; simp; omega)
   have HOne := hid (nine_one q0 q1 q2 q3 q4 q5 q6 q7 q8 q9 q10 q11 q12 q13)
   go_wp2_with (at_builtin; refine wpList_app _ rfl (.tmp 178) (.tmp 180) 29 29 rfl (T + 1) 31 i0 (.agg zC) 9 120 Try.underlying29 X1.out X2.out X3.out X4.out rfl (by decide) (.slice a j c) j xs rfl (HL7.out.row.alloc _) (.slice (some ⟨w7.heap.size,0,none⟩) 1 1) 1 (#[.int .i64 q0,.int .i64 q1,.complex .f64 q2 q3,.string q4,.int .i64 q5,.int .u32 q6,.int .u64 q7,.slice q8 q9 q10,.slice q11 q12 q13] : Array Value).toList rfl (Src.ofSlice _ Try.underlying29 _ _ _ _ rfl (World.news_of_block (heap_alloc_new w7 _)) HOne.out) HM1.out HMB.out HB7.out ?_; intro a8 c8 w8 ho8 hg8 _ hl8; have hnx := HL7.out.next hg8 ho8; have HLN := hid hnx.1; have HTn := hid hnx.2; have HK8 := hid (app_keep HL7.out.row hg8); have HOw := hid (show (Value.slice a8 (j + 1) c8).ownBlock = (Value.slice a j c).ownBlock ∨ ∃ b8,(Value.slice a8 (j + 1) c8).ownBlock = some b8 ∧ w5.heap.size ≤ b8 from hl8.imp id fun e => ⟨_,e,by have := HT57.out.size; simp; omega⟩); have y8 : w8.cell? ⟨T,8,none⟩ = some (.slice a j c) := (World.cell?_of_block (HK8.out.1 T (by omega) HTl.out)).trans x8; have z8 : w8.frozen? ⟨T,8,none⟩ = false := (World.frozen?_of_block (HK8.out.1 T (by omega) HTl.out)).trans (blk_fz HL7.out.q.tb 8); clear hnx ho8 hg8 hl8)
   clear y8 z8 p0 p1 p2 p3 p4 p5 p6 p7 p8 x8 HK8
   go_round
   case rel =>
    refine ⟨j + 1,i2,n2,na2,nl2,nc2,cd2,a8,c8,_,by go_num,HLN.out,?_⟩
    have hjk : j < q := by omega
    rcases HG.out.next HL.out hjk HB5.out HP.out HSN.out ((HT57.out.mono fun i _ e => .inl e).trans (HTn.out.mono fun i _ e => .inr e)) HOw.out with ⟨h1,h2⟩ | ⟨h1,h2⟩
    ·exact .inl ⟨h1,by simp only [kindP,HGd.out.1]; simp [show ¬ 256 < q by omega,h2]⟩
    ·exact .inr ⟨h1,rfl,HGd.out,h2⟩
   case measure => simp [intOf]; omega
  ·have hcase : (decide (j < q) = true ∧ decide ((j : Int) < (q : Int)) = true ∧ (cd == 0) = false) ∨ (decide (j < q) = false ∧ decide ((j : Int) < (q : Int)) = false ∧ True) := by
    by_cases hj : (j : Int) < (q : Int)
    ·exact .inl ⟨decide_eq_true (by omega),decide_eq_true hj,beq_eq_false_iff_ne.2 fun e => hgo ⟨hj,e⟩⟩
    ·exact .inr ⟨decide_eq_false (by omega),decide_eq_false hj,trivial⟩
   have HGo := hid hgo
   clear hgo
   obtain ⟨wq,rfl⟩ : ∃ wq : World,wq = wr := ⟨_,rfl⟩
   have HXq := hid HL.out.q.xb
   have HYq := hid HL.out.q.yb
   have HZq := hid HL.out.q.zb
   have HTq := hid HL.out.q.tb
   have HBq := hid HL.out.q.below
   have HPost := hid (show ∀ wb,Turn (fun i => i = Yb ∨ i = Zb) wq wb → PartOut w.heap.size na s.names (kindP bs sub 6 s1) i n na' nl' nc' cd (lC 6 (.slice a j c)) wb.drew from by
    intro wb hT
    rcases HOo.out with ⟨h1,h2⟩ | ⟨h1,_,hg,sj,l,vs,hG⟩
    ·exact .inl ⟨h1,h2⟩
    ·have hjk : ¬ j < q := fun e => HGo.out ⟨by omega,h1⟩
     obtain ⟨g1,g2,g3,g4,g5,g6,g7⟩ := hG.done HL.out hjk hT
     refine .inr ⟨h1,_,sj,?_,g2,g3,g4,g5.drew,Rep.keep (w := wb) (w' := wb.drew) (F := fun b => w.heap.size ≤ b) (fun b _ _ => rfl) (.mk { kind := (6 : Nat) } l) _ (HN.out ▸ g6),HN.out ▸ g7⟩
     simp only [kindP,hg.1]
     simp [show ¬ 256 < q by omega,g1])
   clear HOo HGo
   rcases hcase with ⟨hc1,hc3,hc2⟩ | ⟨hc1,hc3,hc2⟩
   all_goals
    obtain ⟨k0,k1,k2,k3,k4⟩ := FiveAt.of_block HXq.out
    go_upto_region 54 with fail
    obtain ⟨k0,k1,k2,k3,k4⟩ := FiveAt.of_block HXq.out
    obtain ⟨t0,t1,t2,t3,t4,t5,t6,t7,t8⟩ := NineAt.of_block HTq.out
    obtain ⟨y0,y1,y2,y3,y4⟩ := FiveAt.of_block HYq.out
    obtain ⟨z0,z1,z2,z3,z4,z5,z6,z7,z8⟩ := NineAt.of_block HZq.out
    have yf := blk_fz HYq.out
    have zf := blk_fz HZq.out
    have hT1 : ¬ Yb = T := by omega
    have hT2 : ¬ Zb = T := by omega
    have hT3 : ¬ Yb = Xb := by omega
    have hT4 : ¬ Zb = Xb := by omega
    go_region_held3 (fun w' => w'.cell? ⟨Xb,0,none⟩ = some (.slice ba bs.length bc) ∧ w'.cell? ⟨Xb,1,none⟩ = some (.int .i64 i) ∧ w'.cell? ⟨Xb,2,none⟩ = some (.int .i64 n) ∧ w'.cell? ⟨Xb,3,none⟩ = some (.slice na' nl' nc') ∧ w'.cell? ⟨Xb,4,none⟩ = some (.int .i64 cd) ∧ w'.cell? ⟨T,0,none⟩ = some (.int .i64 6) ∧ w'.cell? ⟨T,1,none⟩ = some (.int .i64 0) ∧ w'.cell? ⟨T,2,none⟩ = some (.complex .f64 0 0) ∧ w'.cell? ⟨T,3,none⟩ = some (.string ⟨#[]⟩) ∧ w'.cell? ⟨T,4,none⟩ = some (.int .i64 0) ∧ w'.cell? ⟨T,5,none⟩ = some (.int .u32 0) ∧ w'.cell? ⟨T,6,none⟩ = some (.int .u64 0) ∧ w'.cell? ⟨T,7,none⟩ = some (nilV) ∧ w'.cell? ⟨T,8,none⟩ = some (.slice a j c)) (go_keep) (fail)
    rename_i hHeld
    clear hHeld hT1 hT2 hT3 hT4 k0 k1 k2 k3 k4 t0 t1 t2 t3 t4 t5 t6 t7 t8 y0 y1 y2 y3 y4 z0 z1 z2 z3 z4 z5 z6 z7 z8 yf zf
    have hYa := five_set HYq.out (d0 := .slice ba bs.length bc) (d1 := .int .i64 i) (d2 := .int .i64 n) (d3 := .slice na' nl' nc') (d4 := .int .i64 cd)
    have hTa := five_turn wq Yb (.slice ba bs.length bc) (.int .i64 i) (.int .i64 n) (.slice na' nl' nc') (.int .i64 cd)
    have hZa := (hTa.block _ (blk_lt HZq.out) (by omega)).trans HZq.out
    have HBa := hid (HBq.out.trans (hTa.below (bsz HN.out HBq.out) (fun i e => by omega)))
    simp only [set5] at hYa hTa hZa HBa
    generalize ((((wq.setCell ⟨Yb,0,none⟩ (.slice ba bs.length bc)).setCell ⟨Yb,1,none⟩ (.int .i64 i)).setCell ⟨Yb,2,none⟩ (.int .i64 n)).setCell ⟨Yb,3,none⟩ (.slice na' nl' nc')).setCell ⟨Yb,4,none⟩ (.int .i64 cd) = wa at *
    have hZb := nine_set hZa (d0 := .int .i64 6) (d1 := .int .i64 0) (d2 := .complex .f64 0 0) (d3 := .string ⟨#[]⟩) (d4 := .int .i64 0) (d5 := .int .u32 0) (d6 := .int .u64 0) (d7 := nilV) (d8 := .slice a j c)
    have hTb := nine_turn wa Zb (.int .i64 6) (.int .i64 0) (.complex .f64 0 0) (.string ⟨#[]⟩) (.int .i64 0) (.int .u32 0) (.int .u64 0) (nilV) (.slice a j c)
    have HYb := hid ((hTb.block _ (blk_lt hYa) (by omega)).trans hYa)
    have HBb := hid (HBa.out.trans (hTb.below (bsz HN.out HBa.out) (fun i e => by omega)))
    have HTab := hid ((hTa.mono (S' := fun i => i = Yb ∨ i = Zb) fun i _ e => .inl e).trans (hTb.mono fun i _ e => .inr e))
    have HZb := hid hZb
    simp only [set9,set5] at HYb HBb HTab HZb
    clear hZb hTb hYa hTa hZa HBa
    generalize ((((((((wa.setCell ⟨Zb,0,none⟩ (.int .i64 6)).setCell ⟨Zb,1,none⟩ (.int .i64 0)).setCell ⟨Zb,2,none⟩ (.complex .f64 0 0)).setCell ⟨Zb,3,none⟩ (.string ⟨#[]⟩)).setCell ⟨Zb,4,none⟩ (.int .i64 0)).setCell ⟨Zb,5,none⟩ (.int .u32 0)).setCell ⟨Zb,6,none⟩ (.int .u64 0)).setCell ⟨Zb,7,none⟩ (nilV)).setCell ⟨Zb,8,none⟩ (.slice a j c) = wb at *
    obtain ⟨y0,y1,y2,y3,y4⟩ := FiveAt.of_block HYb.out
    obtain ⟨z0,z1,z2,z3,z4,z5,z6,z7,z8⟩ := NineAt.of_block HZb.out
    go_wp2_with fail
    exact bodyPost_ret (v := .tuple #[.agg #[.slice ba bs.length bc,.int .i64 i,.int .i64 n,.slice na' nl' nc',.int .i64 cd],.agg #[.int .i64 6,.int .i64 0,.complex .f64 0 0,.string ⟨#[]⟩,.int .i64 0,.int .u32 0,.int .u64 0,nilV,.slice a j c]]) (by simp [results,Try.results32,go_sem,y0,y1,y2,y3,y4,z0,z1,z2,z3,z4,z5,z6,z7,z8]) rfl (rpt_back (HN.out ▸ HBb.out.drew) (HPost.out _ HTab.out))
end Go.Proofs.Ytgadkiljnebicaa
