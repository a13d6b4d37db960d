/- Several texts in one. -/
import Derived.Test.YtgadkiljnebicaaD18
import Derived.Test.YtgadkiljnebicaaD20
import Derived.Test.YtgadkiljnebicaaD17
import Derived.Test.YtgadkiljnebicaaD15
import Derived.Test.YtgadkiljnebicaaD21
import Derived.Test.YtgadkiljnebicaaD22
import Derived.Test.YtgadkiljnebicaaD13
import Derived.Laws.Rows
import Derived.Test.YtgadkiljnebicaaD05
import Derived.Test.YtgadkiljnebicaaD03
namespace Go.Proofs.Ytgadkiljnebicaa
open Go.Lib (hid)
open Go.RowKit
set_option maxRecDepth 100000
theorem wpart_any (B Wb p m : Nat) : ∀ (r : Nat) (t : Tm),GoodT r t → ∀ (F : Nat → Prop),(∀ b,F b → b < B) → ∀ (v : Value) (a : Option Addr) (c : Nat) (out : List UInt8) (names : List ByteArray) (cs : Array Value) (w : World),WrAt B Wb p m v a c out names w → Rep w F t cs → names.length + sizeT t ≤ 4096 → out.length + 44 * sizeT t + 200 ≤ 1000000000 →
  Calls Try.prog 39 #[.pointer (some ⟨Wb,0,none⟩),.agg cs] w (WrPost B Wb p m v a c out w (out ++ (encT t names).1) (encT t names).2) := by
 intro r
 induction r with
 | zero => intro t h; exact h.elim
 | succ r ih =>
  intro t hg F hF v a c out names cs w hw hrep hnm hlen
  obtain ⟨h,l⟩ := t
  obtain ⟨hok,hgl⟩ := hg
  obtain ⟨bv,lv,rfl,hbv,vs,hlv,hreps⟩ := hrep
  simp only [sizeT] at hnm hlen
  cases hok with
  | int n hn =>
   have e1 : bv = nilV := hbv.2.2 rfl
   have e2 : lv = nilV := hlv.2.2 rfl
   subst e1 e2
   have := wp1 B Wb p m v a c out names n hn w hw (by omega)
   simpa [encT,headB,encTs] using this
  | cx x y hx hy h =>
   have e1 : bv = nilV := hbv.2.2 rfl
   have e2 : lv = nilV := hlv.2.2 rfl
   subst e1 e2
   have := wp2 B Wb p m v a c out names x y hx hy w hw (by omega)
   simpa [encT,headB,encTs] using this
  | atom s hs =>
   have e1 : bv = nilV := hbv.2.2 rfl
   have e2 : lv = nilV := hlv.2.2 rfl
   subst e1 e2
   have h3 : encT (.mk { kind := 3,s := s } []) names = (UInt8.ofNat 3 :: (atomB names s).1,(atomB names s).2) := by simp [encT,headB,encTs]
   rw [h3]
   cases hp : pos names s with
   | some k => exact wp3_old B Wb p m v a c out names s k hp hs w hw (by omega) (by simp [sizeTs] at hnm; omega)
   | none => exact wp3_new B Wb p m v a c out names s hp hs w hw (by omega) (by simp [sizeTs] at hnm; omega)
  | id k node boot idn hk hn hb hi h =>
   have e1 : bv = nilV := hbv.2.2 rfl
   have e2 : lv = nilV := hlv.2.2 rfl
   subst e1 e2
   rcases hk with rfl | rfl
   ·have := wp4 B Wb p m v a c out names node boot idn hn hb hi w hw (by omega)
    simpa [encT,headB,encTs] using this
   ·have := wp5 B Wb p m v a c out names node boot idn hn hb hi w hw (by omega)
    simpa [encT,headB,encTs] using this
  | list k _ hk hl =>
   have e1 : bv = nilV := hbv.2.2 rfl
   subst e1
   obtain ⟨la,lc,rfl⟩ := row_slice hlv.1
   have hsub : ∀ t ∈ l,∀ (v : Value) (a : Option Addr) (c : Nat) (out : List UInt8) (names : List ByteArray) (cs : Array Value) (w : World),WrAt B Wb p m v a c out names w → Rep w F t cs → names.length + sizeT t ≤ 4096 → out.length + 44 * sizeT t + 200 ≤ 1000000000 →
     Calls Try.prog 39 #[.pointer (some ⟨Wb,0,none⟩),.agg cs] w (WrPost B Wb p m v a c out w (out ++ (encT t names).1) (encT t names).2) := fun t ht v a c out names cs w h1 h2 h3 h4 => ih t (hgl t ht) F hF v a c out names cs w h1 h2 h3 h4
   rcases hk with rfl | rfl
   ·have := wp6 B Wb p m v a c out names F l vs la lc w hw (by omega) hF hlv hreps hl (by simp at hnm; omega) r hgl hsub
    simpa [encT,headB] using this
   ·have := wp7 B Wb p m v a c out names F l vs la lc w hw (by omega) hF hlv hreps hl (by simp at hnm; omega) r hgl hsub
    simpa [encT,headB] using this
  | bytes b =>
   have e2 : lv = nilV := hlv.2.2 rfl
   subst e2
   obtain ⟨ba,bc,rfl⟩ := row_slice hbv.1
   change names.length + (1 + b.length + sizeTs []) ≤ 4096 at hnm
   change out.length + 44 * (1 + b.length + sizeTs []) + 200 ≤ 1000000000 at hlen
   have := wp8 B Wb p m v a c out names F b ba bc w hw (by omega) hF hbv (by omega)
   simpa [encT,headB,encTs] using this
end Go.Proofs.Ytgadkiljnebicaa
namespace Go.Proofs.Ytgadkiljnebicaa
open Go.Lib (hid)
open Go.RowKit
set_option maxRecDepth 100000
attribute [local go_sem] run_store_complex
theorem infoT9 : (Try.prog.info? 31).map (·.size) = some 9 := by kernel_rfl
def DecPost (W : World) (r : Except Int Tm) (e : Ending) (w' : World) : Prop :=
 match r with
 | .ok t => ∃ c,e = .returned (.tuple #[.agg c,.int .i64 0]) ∧ Rep w' (fun b => W.heap.size ≤ b) t c ∧ Below W.heap.size W w'
 | .error x => e = .returned (.tuple #[.agg zC,.int .i64 x]) ∧ Below W.heap.size W w'
theorem dec_panic {x : Int} {N1 N2 : Nat} {c0 c1 c2 c3 c4 c5 c6 c7 c8 : Value} {e0 : Int} {T : Array Value} {W w' : World} (hT2 : T[2]? = some (.pointer (some ⟨N1,0,none⟩))) (hT3 : T[3]? = some (.pointer (some ⟨N2,0,none⟩)))
  (h1 : w'.heap[N1]? = some (.cells #[c0,c1,c2,c3,c4,c5,c6,c7,c8] 31 (0,0))) (h2 : ErrAt w' N2 e0) (hne : ¬ N1 = N2) (hN1 : W.heap.size ≤ N1) (hN2 : W.heap.size ≤ N2) (hb : Below W.heap.size W w') :
  bodyPostD Try.prog Try.f10 (DecPost W (.error x)) (Exit.panic (thrown x)) { tmps := T,defers := [{ target := .fn (.func 21) #[.pointer (some ⟨N1,0,none⟩),.pointer (some ⟨N2,0,none⟩)],args := #[] }] } w' := by
 refine leaves_cons (f := 21) (args := #[.pointer (some ⟨N1,0,none⟩),.pointer (some ⟨N2,0,none⟩)]) (by simp) (by simp [go_sem]) ?_
 refine (catch_panicking N1 N2 x c0 c1 c2 c3 c4 c5 c6 c7 c8 e0 w' h1 h2 hne).mono ?_
 rintro e u' w'' ⟨rfl,rfl,h1,h2,hT⟩
 have HB := hid (hb.trans (hT.below hb.size (fun i e => by omega)))
 obtain ⟨k0,k1,k2,k3,k4,k5,k6,k7,k8⟩ := NineAt.of_block h1
 have m0 : w''.cell? ⟨N2,0,none⟩ = some (.int .i64 x) := by
  unfold ErrAt at h2
  simp [World.cell?,h2]
 clear h1 h2 hT hb
 simp only [settle]
 refine ⟨.tuple #[.agg zC,.int .i64 x],by simp [results,Try.results10,go_sem,hT2,hT3,k0,k1,k2,k3,k4,k5,k6,k7,k8,m0],rfl,HB.out⟩
set_option maxHeartbeats 2000000 in
theorem decode_any (bv : Value) (bs : List UInt8) (w : World) (h : Sl w bv (bs.map cellB)) : Calls Try.prog 10 #[bv] w (DecPost w (decodeP bs)) := by
 have HS := hid h
 obtain ⟨a,c,hbv,hm,_⟩ := h
 rw [List.length_map] at hbv hm
 subst hbv
 have hmf : ∀ (fn : Fn) (first cap : Array Value) (w : World),(Instr.makeFunc fn first cap).run Try.prog w = .ok (.func fn first cap) w := fun _ _ _ _ => rfl
 by_cases hlong : 131072 < bs.length
 ·have HK := hid (show decodeP bs = .error 70 by unfold decodeP; rw [if_pos hlong])
  have hl2 : (131072 : Int) < (bs.length : Int) := by omega
  clear hlong
  go_enter_defers Try.func10,Try.ntmps10
  go_wp2_with fail
  refine ⟨.tuple #[.agg zC,.int .i64 70],by simp [results,Try.results10,go_sem],?_⟩
  rw [HK.out]
  exact ⟨rfl,((Below.refl w.heap.size w).alloc (Nat.le_refl _) _).alloc (by simp) _⟩
 ·have hl2 : (bs.length : Int) ≤ (131072 : Int) := by omega
  go_enter_defers Try.func10,Try.ntmps10
  go_wp2_with fail
  have HB0 := hid (((Below.refl w.heap.size w).alloc (Nat.le_refl _) (.cells #[.int .i64 0,.int .i64 0,.complex .f64 0 0,.string ⟨#[]⟩,.int .i64 0,.int .u32 0,.int .u64 0,nilV,nilV] 31)).alloc (by simp) (.cells #[.int .i64 0] 34))
  have h10 : Hid (((w.alloc (.cells #[.int .i64 0,.int .i64 0,.complex .f64 0 0,.string ⟨#[]⟩,.int .i64 0,.int .u32 0,.int .u64 0,nilV,nilV] 31)).alloc (.cells #[.int .i64 0] 34)).heap[w.heap.size]? = some (.cells #[.int .i64 0,.int .i64 0,.complex .f64 0 0,.string ⟨#[]⟩,.int .i64 0,.int .u32 0,.int .u64 0,nilV,nilV] 31 (0,0))) := (Below.heap_alloc _ _ _ (by simp)).trans (heap_new w _)
  have h20 : Hid (((w.alloc (.cells #[.int .i64 0,.int .i64 0,.complex .f64 0 0,.string ⟨#[]⟩,.int .i64 0,.int .u32 0,.int .u64 0,nilV,nilV] 31)).alloc (.cells #[.int .i64 0] 34)).heap[w.heap.size + 1]? = some (.cells #[.int .i64 0] 34 (0,0))) := by
   have := heap_new (w.alloc (.cells #[.int .i64 0,.int .i64 0,.complex .f64 0 0,.string ⟨#[]⟩,.int .i64 0,.int .u32 0,.int .u64 0,nilV,nilV] 31)) (.cells #[.int .i64 0] 34)
   rw [show (w.alloc (.cells #[.int .i64 0,.int .i64 0,.complex .f64 0 0,.string ⟨#[]⟩,.int .i64 0,.int .u32 0,.int .u64 0,nilV,nilV] 31)).heap.size = w.heap.size + 1 by simp] at this
   exact this
  generalize ((w.alloc (.cells #[.int .i64 0,.int .i64 0,.complex .f64 0 0,.string ⟨#[]⟩,.int .i64 0,.int .u32 0,.int .u64 0,nilV,nilV] 31)).alloc (.cells #[.int .i64 0] 34)) = w0 at *
  refine (new_any _).mono ?_
  rintro e w1 ⟨rfl,ht1,hb1⟩
  have HS1 := hid (HS.out.same' (W' := w1) fun b _ _ hb => (hb1.block b (by have := HB0.out.size; omega)).trans (HB0.out.block b hb))
  go_wp2_with fail
  have hB0s := HB0.out.size
  have hb1s := hb1.size
  have hNs : w.heap.size + 1 < w0.heap.size := blk_lt h20.out
  have HBA := hid ((HB0.out.trans (hb1.mono hB0s)).alloc (by omega) (.cells #[.slice a bs.length c,.int .i64 0,.int .i64 0,.pointer (some ⟨w0.heap.size + 1,0,none⟩)] 68))
  have hq := (Below.refl w1.heap.size w1).alloc (Nat.le_refl _) (.cells #[.slice a bs.length c,.int .i64 0,.int .i64 0,.pointer (some ⟨w0.heap.size + 1,0,none⟩)] 68)
  have ht1l := ht1.lt
  have HRd : Hid (RdAt (w1.alloc (.cells #[.slice a bs.length c,.int .i64 0,.int .i64 0,.pointer (some ⟨w0.heap.size + 1,0,none⟩)] 68)) w1.heap.size (w0.heap.size + 1) w0.heap.size nilV (.slice a bs.length c) bs ⟨0,0,[]⟩) := by
   refine ⟨heap_new w1 _,ht1.below hq,HS1.out.below hq,by omega,Nat.zero_le _,Nat.zero_le _,?_,?_⟩
   ·rintro (e | e | e)
    ·omega
    ·omega
    ·cases e
   ·intro b e hp
    have hbl : b < w.heap.size := by
     obtain ⟨a2,c2,e2,_,hc2⟩ := HS.out
     obtain ⟨b2,off,e3,hcell⟩ := hc2 (by simpa using hp)
     have e5 : a = a2 := by injection e2
     rw [e5,e3] at e
     cases e
     exact cell_lt (hcell 0 (by simpa using hp))
    rintro (e | e | e | e)
    ·omega
    ·omega
    ·omega
    ·cases e
  have H12 := hid ((hq.block w.heap.size (by omega)).trans ((hb1.block w.heap.size (by omega)).trans h10.out))
  have H22 := hid ((hq.block (w.heap.size + 1) (by omega)).trans ((hb1.block (w.heap.size + 1) (by omega)).trans h20.out))
  have hRN : w.heap.size + 1 < w1.heap.size := by omega
  have hpN : w.heap.size + 1 < w0.heap.size := hNs
  have hpp : w.heap.size + 1 < w0.heap.size + 1 := by omega
  clear h10 h20 hb1 ht1 hq HS1 HB0 hB0s hb1s ht1l hNs
  generalize w1.alloc (.cells #[.slice a bs.length c,.int .i64 0,.int .i64 0,.pointer (some ⟨w0.heap.size + 1,0,none⟩)] 68) = w2 at *
  generalize w1.heap.size = R at *
  generalize w0.heap.size + 1 = p at *
  have HO := one_any R p w0.heap.size nilV (.slice a bs.length c) bs ⟨0,0,[]⟩ w2 HRd.out
  generalize w0.heap.size = m at *
  have hne : ¬ w.heap.size = w.heap.size + 1 := by omega
  cases ho : oneP bs ⟨0,0,[]⟩ with
  | error x =>
   have HK := hid (show decodeP bs = .error x by unfold decodeP; rw [if_neg hlong,ho])
   rw [ho] at HO
   have HO := hid HO
   clear ho
   refine HO.out.mono ?_
   rintro e w3 ⟨rfl,hT3⟩
   go_wp2_with fail
   rw [HK.out]
   refine dec_panic rfl rfl ((hT3.block _ (blk_lt H12.out) (by omega)).trans H12.out) ((hT3.block _ (blk_lt H22.out) (by omega)).trans H22.out) hne (Nat.le_refl _) (by omega) (HBA.out.trans (hT3.below HBA.out.size (fun i e => by omega)))
  | ok y =>
   obtain ⟨k,s1⟩ := y
   obtain ⟨o1,o2,_⟩ := oneP_ok ho
   have HU := hid ho
   rw [ho] at HO
   have HO := hid HO
   clear ho
   refine HO.out.mono ?_
   rintro e w3 ⟨rfl,hR3,hT3⟩
   have HR3 := hid hR3
   have HB3 := hid (HBA.out.trans (hT3.below HBA.out.size (fun i e => by omega)))
   have H13 := hid ((hT3.block _ (blk_lt H12.out) (by omega)).trans H12.out)
   have H23 := hid ((hT3.block _ (blk_lt H22.out) (by omega)).trans H22.out)
   clear hR3 hT3 HBA H12 H22 HO HRd
   by_cases hk : k = 69
   ·subst hk
    go_wp2_with fail
    have HP := rpart_any R p m (.slice a bs.length c) bs 24 (Nat.le_refl _) 1 rfl nilV s1 w3 HR3.out (by rw [o2]; exact Nat.zero_le _)
    have hf1 : ¬ foot R p m nilV w.heap.size := by
     rintro (e | e | e | e)
     ·omega
     ·omega
     ·omega
     ·cases e
    have hf2 : ¬ foot R p m nilV (w.heap.size + 1) := by
     rintro (e | e | e | e)
     ·omega
     ·omega
     ·omega
     ·cases e
    have hff : ∀ i,foot R p m nilV i → w.heap.size ≤ i := by
     rintro i (e | e | e | e)
     ·omega
     ·omega
     ·omega
     ·cases e
    cases hp : partP bs 24 s1 with
    | error x =>
     have HK := hid (show decodeP bs = .error x by unfold decodeP; rw [if_neg hlong,HU.out]; simp [hp])
     rw [hp] at HP
     have HP := hid HP
     clear hp
     refine HP.out.mono ?_
     rintro e w4 ⟨rfl,hT4⟩
     go_wp2_with fail
     rw [HK.out]
     refine dec_panic rfl rfl ((hT4.block _ (blk_lt H13.out) hf1).trans H13.out) ((hT4.block _ (blk_lt H23.out) hf2).trans H23.out) hne (Nat.le_refl _) (by omega) (HB3.out.trans (hT4.below HB3.out.size hff))
    | ok y =>
     obtain ⟨t,s2⟩ := y
     have HK := hid (show decodeP bs = if s2.i < bs.length then .error 74 else .ok t by unfold decodeP; rw [if_neg hlong,HU.out]; simp [hp])
     rw [hp] at HP
     have HP := hid HP
     clear hp
     refine HP.out.mono ?_
     rintro e w4 ⟨v',cs,rfl,hR4,hT4,hv4,hrep⟩
     obtain ⟨q0,q1,q2,q3,q4,q5,q6,q7,q8,q9,q10,q11,q12,q13,rfl,_⟩ := rep_nine hrep
     have H14 := hid ((hT4.block _ (blk_lt H13.out) hf1).trans H13.out)
     have H24 := hid ((hT4.block _ (blk_lt H23.out) hf2).trans H23.out)
     have HB4 := hid (HB3.out.trans (hT4.below HB3.out.size hff))
     have hN3 := blk_lt H23.out
     have HRep := hid (Rep.mono (F' := fun b => w.heap.size + 1 < b) (fun b e _ => by have := e.1; omega) _ _ hrep)
     have hRne : ¬ R = w.heap.size := by omega
     have h2ne : ¬ w.heap.size + 1 = w.heap.size := by omega
     have r1 : (w4.setRow w.heap.size #[.int .i64 q0,.int .i64 q1,.complex .f64 q2 q3,.string q4,.int .i64 q5,.int .u32 q6,.int .u64 q7,.slice q8 q9 q10,.slice q11 q12 q13]).cell? ⟨R,1,none⟩ = some (.int .i64 s2.i) := (World.cell?_of_block (setRow_other w4 _ R _ hRne)).trans hR4.c1
     have hile := hR4.ile
     have H15 := hid (setRow_heap w4 w.heap.size #[.int .i64 0,.int .i64 0,.complex .f64 0 0,.string ⟨#[]⟩,.int .i64 0,.int .u32 0,.int .u64 0,nilV,nilV] #[.int .i64 q0,.int .i64 q1,.complex .f64 q2 q3,.string q4,.int .i64 q5,.int .u32 q6,.int .u64 q7,.slice q8 q9 q10,.slice q11 q12 q13] 31 (0,0) H14.out)
     have H25 := hid ((setRow_other w4 w.heap.size (w.heap.size + 1) #[.int .i64 q0,.int .i64 q1,.complex .f64 q2 q3,.string q4,.int .i64 q5,.int .u32 q6,.int .u64 q7,.slice q8 q9 q10,.slice q11 q12 q13] h2ne).trans H24.out)
     have HB5 := hid (HB4.out.trans ((setRow_turn w4 w.heap.size #[.int .i64 q0,.int .i64 q1,.complex .f64 q2 q3,.string q4,.int .i64 q5,.int .u32 q6,.int .u64 q7,.slice q8 q9 q10,.slice q11 q12 q13]).below HB4.out.size (fun i e => by omega)))
     have HRep5 := hid (Rep.keep (w' := w4.setRow w.heap.size #[.int .i64 q0,.int .i64 q1,.complex .f64 q2 q3,.string q4,.int .i64 q5,.int .u32 q6,.int .u64 q7,.slice q8 q9 q10,.slice q11 q12 q13]) (fun b e _ => setRow_other w4 _ _ _ (by omega)) _ _ HRep.out)
     clear hR4 hT4 hv4 hrep HR3 HP
     have hlt : (s2.i < bs.length ∧ (s2.i : Int) < (bs.length : Int)) ∨ (¬ s2.i < bs.length ∧ decide ((s2.i : Int) < (bs.length : Int)) = false ∧ decide (s2.i < bs.length) = false) := by
      by_cases hi : s2.i < bs.length
      ·exact .inl ⟨hi,by omega⟩
      ·exact .inr ⟨hi,decide_eq_false (by omega),decide_eq_false hi⟩
     rcases hlt with ⟨hi,hi1⟩ | ⟨hi,hi1,hi2⟩
     ·have HK2 := hid (show decodeP bs = .error 74 by rw [HK.out,if_pos hi])
      go_wp2_with (refine wpList_store_row rfl 31 (.tmp 2) (.tmp 20) rfl w.heap.size #[.int .i64 q0,.int .i64 q1,.complex .f64 q2 q3,.string q4,.int .i64 q5,.int .u32 q6,.int .u64 q7,.slice q8 q9 q10,.slice q11 q12 q13] rfl rfl 31 #[.int .i64 0,.int .i64 0,.complex .f64 0 0,.string ⟨#[]⟩,.int .i64 0,.int .u32 0,.int .u64 0,nilV,nilV] H14.out infoT9 rfl (by simp [Array.all,Value.oneCell']) ?_)
      refine (fail_any _ 74 _).mono ?_
      rintro e w5 ⟨rfl,rfl⟩
      go_wp2_with fail
      rw [HK2.out]
      exact dec_panic rfl rfl H15.out H25.out hne (Nat.le_refl _) (by omega) HB5.out
     ·have HK2 := hid (show decodeP bs = .ok t by rw [HK.out,if_neg hi])
      go_upto_region 8 with (refine wpList_store_row rfl 31 (.tmp 2) (.tmp 20) rfl w.heap.size #[.int .i64 q0,.int .i64 q1,.complex .f64 q2 q3,.string q4,.int .i64 q5,.int .u32 q6,.int .u64 q7,.slice q8 q9 q10,.slice q11 q12 q13] rfl rfl 31 #[.int .i64 0,.int .i64 0,.complex .f64 0 0,.string ⟨#[]⟩,.int .i64 0,.int .u32 0,.int .u64 0,nilV,nilV] H14.out infoT9 rfl (by simp [Array.all,Value.oneCell']) ?_)
      clear H14 H24 HB4 HRep
      generalize w4.setRow w.heap.size #[.int .i64 q0,.int .i64 q1,.complex .f64 q2 q3,.string q4,.int .i64 q5,.int .u32 q6,.int .u64 q7,.slice q8 q9 q10,.slice q11 q12 q13] = w5 at *
      obtain ⟨k0,k1,k2,k3,k4,k5,k6,k7,k8⟩ := NineAt.of_block H15.out
      have H16 := hid (setRow_heap w5 w.heap.size #[.int .i64 q0,.int .i64 q1,.complex .f64 q2 q3,.string q4,.int .i64 q5,.int .u32 q6,.int .u64 q7,.slice q8 q9 q10,.slice q11 q12 q13] #[.int .i64 q0,.int .i64 q1,.complex .f64 q2 q3,.string q4,.int .i64 q5,.int .u32 q6,.int .u64 q7,.slice q8 q9 q10,.slice q11 q12 q13] 31 (0,0) H15.out)
      have H26 := hid ((setRow_other w5 w.heap.size (w.heap.size + 1) #[.int .i64 q0,.int .i64 q1,.complex .f64 q2 q3,.string q4,.int .i64 q5,.int .u32 q6,.int .u64 q7,.slice q8 q9 q10,.slice q11 q12 q13] h2ne).trans H25.out)
      have HB6 := hid (HB5.out.trans ((setRow_turn w5 w.heap.size #[.int .i64 q0,.int .i64 q1,.complex .f64 q2 q3,.string q4,.int .i64 q5,.int .u32 q6,.int .u64 q7,.slice q8 q9 q10,.slice q11 q12 q13]).below HB5.out.size (fun i e => by omega)))
      have HRep6 := hid (Rep.keep (w' := w5.setRow w.heap.size #[.int .i64 q0,.int .i64 q1,.complex .f64 q2 q3,.string q4,.int .i64 q5,.int .u32 q6,.int .u64 q7,.slice q8 q9 q10,.slice q11 q12 q13]) (fun b e _ => setRow_other w5 _ _ _ (by omega)) _ _ HRep5.out)
      have m0 : (w5.setRow w.heap.size #[.int .i64 q0,.int .i64 q1,.complex .f64 q2 q3,.string q4,.int .i64 q5,.int .u32 q6,.int .u64 q7,.slice q8 q9 q10,.slice q11 q12 q13]).cell? ⟨w.heap.size + 1,0,none⟩ = some (.int .i64 0) := by
       have h := H26.out
       simp [World.cell?,h]
      have mf := blk_fz H26.out 0
      go_wp2_with (refine wpList_store_row rfl 31 (.tmp 2) (.tmp 30) rfl w.heap.size #[.int .i64 q0,.int .i64 q1,.complex .f64 q2 q3,.string q4,.int .i64 q5,.int .u32 q6,.int .u64 q7,.slice q8 q9 q10,.slice q11 q12 q13] rfl rfl 31 #[.int .i64 q0,.int .i64 q1,.complex .f64 q2 q3,.string q4,.int .i64 q5,.int .u32 q6,.int .u64 q7,.slice q8 q9 q10,.slice q11 q12 q13] H15.out infoT9 rfl (by simp [Array.all,Value.oneCell']) ?_)
      have HE : Hid (DecPost w (.ok t) (.returned (.tuple #[.agg #[.int .i64 q0,.int .i64 q1,.complex .f64 q2 q3,.string q4,.int .i64 q5,.int .u32 q6,.int .u64 q7,.slice q8 q9 q10,.slice q11 q12 q13],.int .i64 0])) ((w5.setRow w.heap.size #[.int .i64 q0,.int .i64 q1,.complex .f64 q2 q3,.string q4,.int .i64 q5,.int .u32 q6,.int .u64 q7,.slice q8 q9 q10,.slice q11 q12 q13]).setCell ⟨w.heap.size + 1,0,none⟩ (.int .i64 0))) :=
       ⟨_,rfl,Rep.mono (fun b e _ => by omega) _ _ (Rep.keep (fun b e _ => Below.heap_setCell _ _ _ _ (by show ¬ b = w.heap.size + 1; omega)) _ _ HRep6.out),HB6.out.setCell (by simp) _⟩
      have H17 := hid ((Below.heap_setCell (w5.setRow w.heap.size #[.int .i64 q0,.int .i64 q1,.complex .f64 q2 q3,.string q4,.int .i64 q5,.int .u32 q6,.int .u64 q7,.slice q8 q9 q10,.slice q11 q12 q13]) ⟨w.heap.size + 1,0,none⟩ (.int .i64 0) _ (fun e => h2ne e.symm)).trans H16.out)
      have H27 : Hid (((w5.setRow w.heap.size #[.int .i64 q0,.int .i64 q1,.complex .f64 q2 q3,.string q4,.int .i64 q5,.int .u32 q6,.int .u64 q7,.slice q8 q9 q10,.slice q11 q12 q13]).setCell ⟨w.heap.size + 1,0,none⟩ (.int .i64 0)).heap[w.heap.size + 1]? = some (.cells #[.int .i64 0] 34 (0,0))) := heap_setCell_at H26.out
      clear k0 k1 k2 k3 k4 k5 k6 k7 k8 m0 mf
      generalize (w5.setRow w.heap.size #[.int .i64 q0,.int .i64 q1,.complex .f64 q2 q3,.string q4,.int .i64 q5,.int .u32 q6,.int .u64 q7,.slice q8 q9 q10,.slice q11 q12 q13]).setCell ⟨w.heap.size + 1,0,none⟩ (.int .i64 0) = w6 at *
      refine leaves_cons (f := 21) (args := #[.pointer (some ⟨w.heap.size,0,none⟩),.pointer (some ⟨w.heap.size + 1,0,none⟩)]) (by simp) (by simp [go_sem]) ?_
      refine (catch_idle _ _ _).mono ?_
      rintro e u' w'' ⟨rfl,rfl,rfl⟩
      obtain ⟨k0,k1,k2,k3,k4,k5,k6,k7,k8⟩ := NineAt.of_block H17.out
      have m0 : w''.cell? ⟨w.heap.size + 1,0,none⟩ = some (.int .i64 0) := by
       have h := H27.out
       simp [World.cell?,h]
      simp only [settle]
      refine ⟨.tuple #[.agg #[.int .i64 q0,.int .i64 q1,.complex .f64 q2 q3,.string q4,.int .i64 q5,.int .u32 q6,.int .u64 q7,.slice q8 q9 q10,.slice q11 q12 q13],.int .i64 0],by simp [results,Try.results10,go_sem,k0,k1,k2,k3,k4,k5,k6,k7,k8,m0],?_⟩
      rw [HK2.out]
      exact HE.out
   ·have HK := hid (show decodeP bs = .error 71 by unfold decodeP; rw [if_neg hlong,HU.out]; simp [hk])
    have hk2 : ((k : Int) == 69) = false := by rw [beq_eq_false_iff_ne]; omega
    have hk3 : ((k : Int) != 69) = true := by rw [bne_iff_ne]; omega
    go_wp2_with fail
    refine (fail_any _ 71 _).mono ?_
    rintro e w4 ⟨rfl,rfl⟩
    go_wp2_with fail
    rw [HK.out]
    exact dec_panic rfl rfl H13.out H23.out hne (Nat.le_refl _) (by omega) HB3.out
theorem order_self {p : Nat} (h : p % 9223372036854775808 < 9218868437227405312) : (FloatKind.f64.format.order p p == some .eq) = true := by
 obtain ⟨s,m,e,hr⟩ := read_fin h
 show ((Ieee.double.read p).order (Ieee.double.read p) == some .eq) = true
 rw [hr]
 simp [Ieee.Datum.order]
def HdFin (h : Hd) : Prop := (FloatKind.f64.format.order h.re h.re == some .eq) = true ∧ (FloatKind.f64.format.order h.im h.im == some .eq) = true
theorem row_sl {w : World} {F : Nat → Prop} {v : Value} {l : List UInt8} (h : Row w F 5 1 v l.length (l.map cellB)) (hl : l.length ≤ 9223372036854775807) : Sl w v (l.map cellB) := Sl.of_owns h.1 (by simpa using hl)
set_option maxHeartbeats 2000000 in
theorem flat_same (h : Hd) (hf : HdFin h) (hbl : h.b.length ≤ 9223372036854775807) (v1 v2 : Value) (a1 a2 : Option Addr) (n c1 c2 : Nat) (F1 F2 : Nat → Prop) (w : World) (h1 : Row w F1 5 1 v1 h.b.length (h.b.map cellB)) (h2 : Row w F2 5 1 v2 h.b.length (h.b.map cellB)) :
  Calls Try.prog 38 #[.agg (hdC h v1 (.slice a1 n c1)),.agg (hdC h v2 (.slice a2 n c2))] w (RB w (.bool true)) := by
 have HB := hid (((Below.refl w.heap.size w).alloc (Nat.le_refl _) (.cells (hdC h v1 (.slice a1 n c1)) 31)).alloc (by simp) (.cells (hdC h v2 (.slice a2 n c2)) 31))
 have S1 := hid ((row_sl h1 hbl).below HB.out)
 have S2 := hid ((row_sl h2 hbl).below HB.out)
 obtain ⟨b1,d1,rfl⟩ := row_slice h1.1
 obtain ⟨b2,d2,rfl⟩ := row_slice h2.1
 obtain ⟨f1,f2⟩ := hf
 have hcv1 := conv_any (P := Try.prog) _ Try.underlying22 Try.underlying5 Try.underlying9 S1.out
 have hcv2 := conv_any (P := Try.prog) _ Try.underlying22 Try.underlying5 Try.underlying9 S2.out
 clear h1 h2 S1 S2 hbl
 obtain ⟨k,n0,re,im,s,node,boot,idn,b⟩ := h
 generalize b.length = bl at *
 simp only at *
 go_enter Try.func38,Try.ntmps38
 go_wp2_with fail
 go_ret
 exact ⟨rfl,HB.out⟩
end Go.Proofs.Ytgadkiljnebicaa
