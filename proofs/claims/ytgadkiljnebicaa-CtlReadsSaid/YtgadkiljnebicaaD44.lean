/- Several texts in one. -/
import Derived.Test.YtgadkiljnebicaaD43
import Derived.Test.YtgadkiljnebicaaD24
import Derived.Deep.RegionHeld3
import Derived.Test.YtgadkiljnebicaaD25
namespace Go.Proofs.Ytgadkiljnebicaa
open Go.Lib (hid)
open Go.RowKit
set_option maxRecDepth 100000
attribute [local go_sem] run_store_complex
structure DA (R X : Nat) (xc : Array Value) (w wr : World) : Prop where
 rb : wr.heap[R]? = some (.cells zC 31 (0,0))
 xb : wr.heap[X]? = some (.cells xc 80 (0,0))
 below : Below R w wr
 rx : R < X
structure DB (R X T : Nat) (xc tc : Array Value) (w wr : World) : Prop where
 d : DA R X xc w wr
 tb : wr.heap[T]? = some (.cells tc 31 (0,0))
 xt : X < T
theorem DA.rl {R X : Nat} {xc : Array Value} {w wr : World} (h : DA R X xc w wr) : R ≤ wr.heap.size := Nat.le_of_lt (blk_lt h.rb)
theorem DA.call {R X : Nat} {xc : Array Value} {w wr w' : World} (h : DA R X xc w wr) (hb : Below wr.heap.size wr w') : DA R X xc w w' :=
 ⟨(hb.block _ (blk_lt h.rb)).trans h.rb,(hb.block _ (blk_lt h.xb)).trans h.xb,h.below.trans (hb.mono h.rl),h.rx⟩
theorem DA.rowX {R X : Nat} {xc : Array Value} {w wr : World} (h : DA R X xc w wr) (xc' : Array Value) : DA R X xc' w (wr.setRow X xc') := by
 have := h.rx
 exact ⟨(setRow_other wr X R xc' (by omega)).trans h.rb,setRow_heap wr X xc xc' _ _ h.xb,h.below.trans ((setRow_turn wr X xc').below h.rl fun i e => by omega),h.rx⟩
theorem DA.newT {R X : Nat} {xc : Array Value} {w wr : World} (h : DA R X xc w wr) (tc : Array Value) : DB R X wr.heap.size xc tc w (wr.alloc (.cells tc 31)) :=
 ⟨h.call ((Below.refl _ _).alloc (Nat.le_refl _) _),heap_new wr _,blk_lt h.xb⟩
theorem DB.call {R X T : Nat} {xc tc : Array Value} {w wr w' : World} (h : DB R X T xc tc w wr) (hb : Below wr.heap.size wr w') : DB R X T xc tc w w' :=
 ⟨h.d.call hb,(hb.block _ (blk_lt h.tb)).trans h.tb,h.xt⟩
theorem DB.rowX {R X T : Nat} {xc tc : Array Value} {w wr : World} (h : DB R X T xc tc w wr) (xc' : Array Value) : DB R X T xc' tc w (wr.setRow X xc') :=
 ⟨h.d.rowX xc',(setRow_other wr X T xc' (by have := h.xt; omega)).trans h.tb,h.xt⟩
theorem DB.rowT {R X T : Nat} {xc tc : Array Value} {w wr : World} (h : DB R X T xc tc w wr) (tc' : Array Value) : DB R X T xc tc' w (wr.setRow T tc') := by
 have := h.xt; have := h.d.rx
 exact ⟨⟨(setRow_other wr T R tc' (by omega)).trans h.d.rb,(setRow_other wr T X tc' (by omega)).trans h.d.xb,h.d.below.trans ((setRow_turn wr T tc').below h.d.rl fun i e => by omega),h.d.rx⟩,setRow_heap wr T tc tc' _ _ h.tb,h.xt⟩
theorem decodeP_eq (bs : List UInt8) (hl : ¬ 131072 < bs.length) : decodeP bs = match oneP bs ⟨0,0,[]⟩ with
  | .error e => .error e
  | .ok (c,s) =>
   if c ≠ 69 then .error 71
   else match partP bs 24 s with
    | .error e => .error e
    | .ok (t,s) => if s.i < bs.length then .error 74 else .ok t := by
 unfold decodeP
 rw [if_neg hl]
 rfl
theorem rdec_long (a : Option Addr) (c : Nat) (bs : List UInt8) (w : World) (hl : 131072 < bs.length) : Calls Try.prog 14 #[.slice a bs.length c] w (DecPost w (decodeP bs)) := by
 have HK := hid (show decodeP bs = .error 70 by unfold decodeP; rw [if_pos hl])
 have hlI : (131072 : Int) < (bs.length : Int) := by omega
 clear hl
 go_enter Try.func14,Try.ntmps14
 go_wp2_with fail
 exact bodyPost_ret (v := .tuple #[.agg zC,.int .i64 70]) (by simp [results,Try.results14,go_sem]) rfl (by rw [HK.out]; exact ⟨rfl,(Below.refl w.heap.size w).alloc (Nat.le_refl _) _⟩)
set_option maxHeartbeats 4000000 in
theorem rdec_short (a : Option Addr) (c : Nat) (bs : List UInt8) (w : World) (h : Sl w (.slice a bs.length c) (bs.map cellB)) (hl : bs.length ≤ 131072) (ho : oneP bs ⟨0,0,[]⟩ = .error 72) :
  Calls Try.prog 14 #[.slice a bs.length c] w (DecPost w (decodeP bs)) := by
 have H := hid h
 have hlI : (bs.length : Int) ≤ 131072 := by omega
 have hdl : decide ((131072 : Int) < (bs.length : Int)) = false := decide_eq_false (by omega)
 clear h
 go_enter Try.func14,Try.ntmps14
 go_wp2_with fail
 have HR1 := hid (heap_new w (.cells #[.int .i64 0,.int .i64 0,.complex .f64 0 0,.string ⟨#[]⟩,.int .i64 0,.int .u32 0,.int .u64 0,nilV,nilV] 31))
 have HB1 := hid ((Below.refl w.heap.size w).alloc (Nat.le_refl _) (.cells #[.int .i64 0,.int .i64 0,.complex .f64 0 0,.string ⟨#[]⟩,.int .i64 0,.int .u32 0,.int .u64 0,nilV,nilV] 31))
 generalize w.alloc (.cells #[.int .i64 0,.int .i64 0,.complex .f64 0 0,.string ⟨#[]⟩,.int .i64 0,.int .u32 0,.int .u64 0,nilV,nilV] 31) = w1 at *
 obtain ⟨Rb,hRb⟩ : ∃ X,w.heap.size = X := ⟨_,rfl⟩
 rw [hRb] at HR1 HB1 ⊢
 have HN := hid hRb
 clear hRb
 have H1 := rone_any a c bs ⟨0,0,[]⟩ none 0 w1 ⟨H.out.below (HN.out ▸ HB1.out),Strs.nil _,hl,Nat.zero_le _,by decide⟩
 have HK := hid (show decodeP bs = .error 72 by rw [decodeP_eq bs (by omega),ho])
 rw [ho] at H1
 have H1 := hid H1
 clear ho hdl
 refine H1.out.mono ?_
 rintro e w2 ⟨i1,n1,u1,rfl,rfl,hb⟩
 have HR2 := hid ((hb.block _ (blk_lt HR1.out)).trans HR1.out)
 have HB2 := hid (HB1.out.trans (hb.mono (Nat.le_of_lt (blk_lt HR1.out))))
 clear hb HR1 HB1 H1
 have HD3 : Hid (DA Rb w2.heap.size #[.slice a bs.length c,.int .i64 i1,.int .i64 n1,.slice none 0 0,.int .i64 72] w (w2.alloc (.cells #[.slice a bs.length c,.int .i64 i1,.int .i64 n1,.slice none 0 0,.int .i64 72] 80))) := hid ⟨(Below.heap_alloc _ _ _ (blk_lt HR2.out)).trans HR2.out,heap_new w2 _,HB2.out.alloc (Nat.le_of_lt (blk_lt HR2.out)) _,blk_lt HR2.out⟩
 go_upto_region 4 with fail
 generalize w2.alloc (.cells #[.slice a bs.length c,.int .i64 i1,.int .i64 n1,.slice none 0 0,.int .i64 72] 80) = w3 at *
 generalize w2.heap.size = Xb at *
 clear HR2 HB2
 obtain ⟨k0,k1,k2,k3,k4⟩ := FiveAt.of_block HD3.out.xb
 go_upto_region 6 with fail
 clear k0 k1 k2 k3 k4
 have HD4 := hid (HD3.out.newT #[.int .i64 0,.int .i64 0,.complex .f64 0 0,.string ⟨#[]⟩,.int .i64 0,.int .u32 0,.int .u64 0,nilV,nilV])
 obtain ⟨k0,k1,k2,k3,k4⟩ := FiveAt.of_block HD4.out.d.xb
 go_upto_region 7 with fail
 clear k0 k1 k2 k3 k4
 generalize w3.alloc (.cells #[.int .i64 0,.int .i64 0,.complex .f64 0 0,.string ⟨#[]⟩,.int .i64 0,.int .u32 0,.int .u64 0,nilV,nilV] 31) = w4 at *
 generalize w3.heap.size = Tb at *
 clear HD3
 obtain ⟨r0,r1,r2,r3,r4,r5,r6,r7,r8⟩ := NineAt.of_block HD4.out.d.rb
 have rf := blk_fz HD4.out.d.rb
 obtain ⟨k0,k1,k2,k3,k4⟩ := FiveAt.of_block HD4.out.d.xb
 have hRX : ¬ Rb = Xb := by have := HD4.out.d.rx; omega
 go_upto_region 12 with fail
 go_region_held3 (fun w' => w'.cell? ⟨Xb,4,none⟩ = some (.int .i64 72)) (go_keep) (fail)
 rename_i hHeld
 clear hHeld r0 r1 r2 r3 r4 r5 r6 r7 r8 rf k0 k1 k2 k3 k4 hRX
 have hZb := nine_set HD4.out.d.rb (d0 := (.int .i64 0)) (d1 := (.int .i64 0)) (d2 := (.complex .f64 0 0)) (d3 := (.string ⟨#[]⟩)) (d4 := (.int .i64 0)) (d5 := (.int .u32 0)) (d6 := (.int .u64 0)) (d7 := nilV) (d8 := nilV)
 have HBb := hid (HD4.out.d.below.trans ((nine_turn w4 Rb (.int .i64 0) (.int .i64 0) (.complex .f64 0 0) (.string ⟨#[]⟩) (.int .i64 0) (.int .u32 0) (.int .u64 0) nilV nilV).below HD4.out.d.rl (fun i e => by omega)))
 have HZb := hid hZb
 simp only [set9,set5] at HZb HBb
 clear hZb
 generalize ((((((((w4.setCell ⟨Rb,0,none⟩ (.int .i64 0)).setCell ⟨Rb,1,none⟩ (.int .i64 0)).setCell ⟨Rb,2,none⟩ (.complex .f64 0 0)).setCell ⟨Rb,3,none⟩ (.string ⟨#[]⟩)).setCell ⟨Rb,4,none⟩ (.int .i64 0)).setCell ⟨Rb,5,none⟩ (.int .u32 0)).setCell ⟨Rb,6,none⟩ (.int .u64 0)).setCell ⟨Rb,7,none⟩ nilV).setCell ⟨Rb,8,none⟩ nilV = wb at *
 obtain ⟨z0,z1,z2,z3,z4,z5,z6,z7,z8⟩ := NineAt.of_block HZb.out
 go_wp2_with fail
 exact bodyPost_ret (v := .tuple #[.agg zC,.int .i64 72]) (by simp [results,Try.results14,go_sem,z0,z1,z2,z3,z4,z5,z6,z7,z8]) rfl (by rw [HK.out]; exact ⟨rfl,HN.out ▸ HBb.out.drew⟩)
set_option maxHeartbeats 4000000 in
theorem rdec_mark (a : Option Addr) (c : Nat) (bs : List UInt8) (w : World) (h : Sl w (.slice a bs.length c) (bs.map cellB)) (hl : bs.length ≤ 131072) (x : Nat) (s1 : St) (ho : oneP bs ⟨0,0,[]⟩ = .ok (x,s1)) (hx : ¬ x = 69) :
  Calls Try.prog 14 #[.slice a bs.length c] w (DecPost w (decodeP bs)) := by
 have H := hid h
 have hlI : (bs.length : Int) ≤ 131072 := by omega
 have hdl : decide ((131072 : Int) < (bs.length : Int)) = false := decide_eq_false (by omega)
 clear h
 go_enter Try.func14,Try.ntmps14
 go_wp2_with fail
 have HR1 := hid (heap_new w (.cells #[.int .i64 0,.int .i64 0,.complex .f64 0 0,.string ⟨#[]⟩,.int .i64 0,.int .u32 0,.int .u64 0,nilV,nilV] 31))
 have HB1 := hid ((Below.refl w.heap.size w).alloc (Nat.le_refl _) (.cells #[.int .i64 0,.int .i64 0,.complex .f64 0 0,.string ⟨#[]⟩,.int .i64 0,.int .u32 0,.int .u64 0,nilV,nilV] 31))
 generalize w.alloc (.cells #[.int .i64 0,.int .i64 0,.complex .f64 0 0,.string ⟨#[]⟩,.int .i64 0,.int .u32 0,.int .u64 0,nilV,nilV] 31) = w1 at *
 obtain ⟨Rb,hRb⟩ : ∃ X,w.heap.size = X := ⟨_,rfl⟩
 rw [hRb] at HR1 HB1 ⊢
 have HN := hid hRb
 clear hRb
 have H1 := rone_any a c bs ⟨0,0,[]⟩ none 0 w1 ⟨H.out.below (HN.out ▸ HB1.out),Strs.nil _,hl,Nat.zero_le _,by decide⟩
 have HK := hid (show decodeP bs = .error 71 by rw [decodeP_eq bs (by omega),ho]; simp [hx])
 rw [ho] at H1
 have H1 := hid H1
 have hxb : ((x : Int) != 69) = true := bne_iff_ne.2 (by omega)
 clear ho hdl hx
 refine H1.out.mono ?_
 rintro e w2 ⟨rfl,hb⟩
 have HR2 := hid ((hb.block _ (blk_lt HR1.out)).trans HR1.out)
 have HB2 := hid (HB1.out.trans (hb.mono (Nat.le_of_lt (blk_lt HR1.out))))
 clear hb HR1 HB1 H1
 have HD3 : Hid (DA Rb w2.heap.size #[.slice a bs.length c,.int .i64 (s1.i : Int),.int .i64 (s1.n : Int),.slice none 0 0,.int .i64 0] w (w2.alloc (.cells #[.slice a bs.length c,.int .i64 (s1.i : Int),.int .i64 (s1.n : Int),.slice none 0 0,.int .i64 0] 80))) := hid ⟨(Below.heap_alloc _ _ _ (blk_lt HR2.out)).trans HR2.out,heap_new w2 _,HB2.out.alloc (Nat.le_of_lt (blk_lt HR2.out)) _,blk_lt HR2.out⟩
 go_upto_region 4 with fail
 generalize w2.alloc (.cells #[.slice a bs.length c,.int .i64 (s1.i : Int),.int .i64 (s1.n : Int),.slice none 0 0,.int .i64 0] 80) = w3 at *
 generalize w2.heap.size = Xb at *
 clear HR2 HB2
 obtain ⟨k0,k1,k2,k3,k4⟩ := FiveAt.of_block HD3.out.xb
 go_wp2_with fail
 clear k0 k1 k2 k3 k4 hxb
 refine (rfail0 _ _ _ _ _ _ _ _ 71 _).mono ?_
 rintro e w4 ⟨rfl,hb⟩
 have HD4 := hid (HD3.out.call hb)
 clear hb HD3
 go_upto_region 6 with (refine wpList_store_row rfl 80 (.tmp 4) (.tmp 25) rfl Xb #[.slice a bs.length c,.int .i64 (s1.i : Int),.int .i64 (s1.n : Int),.slice none 0 0,.int .i64 71] rfl rfl 80 #[.slice a bs.length c,.int .i64 (s1.i : Int),.int .i64 (s1.n : Int),.slice none 0 0,.int .i64 0] HD4.out.xb infoS rfl (by simp [Array.all,Value.oneCell']) ?_)
 have HD5 := hid (HD4.out.rowX #[.slice a bs.length c,.int .i64 (s1.i : Int),.int .i64 (s1.n : Int),.slice none 0 0,.int .i64 71])
 clear HD4
 generalize w4.setRow Xb #[.slice a bs.length c,.int .i64 (s1.i : Int),.int .i64 (s1.n : Int),.slice none 0 0,.int .i64 71] = w5 at *
 have HD6 := hid (HD5.out.newT #[.int .i64 0,.int .i64 0,.complex .f64 0 0,.string ⟨#[]⟩,.int .i64 0,.int .u32 0,.int .u64 0,nilV,nilV])
 obtain ⟨k0,k1,k2,k3,k4⟩ := FiveAt.of_block HD6.out.d.xb
 go_upto_region 7 with fail
 clear k0 k1 k2 k3 k4
 generalize w5.alloc (.cells #[.int .i64 0,.int .i64 0,.complex .f64 0 0,.string ⟨#[]⟩,.int .i64 0,.int .u32 0,.int .u64 0,nilV,nilV] 31) = w6 at *
 generalize w5.heap.size = Tb at *
 clear HD5
 obtain ⟨r0,r1,r2,r3,r4,r5,r6,r7,r8⟩ := NineAt.of_block HD6.out.d.rb
 have rf := blk_fz HD6.out.d.rb
 obtain ⟨k0,k1,k2,k3,k4⟩ := FiveAt.of_block HD6.out.d.xb
 have hRX : ¬ Rb = Xb := by have := HD6.out.d.rx; omega
 go_upto_region 12 with fail
 go_region_held3 (fun w' => w'.cell? ⟨Xb,4,none⟩ = some (.int .i64 71)) (go_keep) (fail)
 rename_i hHeld
 clear hHeld r0 r1 r2 r3 r4 r5 r6 r7 r8 rf k0 k1 k2 k3 k4 hRX
 have hZb := nine_set HD6.out.d.rb (d0 := (.int .i64 0)) (d1 := (.int .i64 0)) (d2 := (.complex .f64 0 0)) (d3 := (.string ⟨#[]⟩)) (d4 := (.int .i64 0)) (d5 := (.int .u32 0)) (d6 := (.int .u64 0)) (d7 := nilV) (d8 := nilV)
 have HBb := hid (HD6.out.d.below.trans ((nine_turn w6 Rb (.int .i64 0) (.int .i64 0) (.complex .f64 0 0) (.string ⟨#[]⟩) (.int .i64 0) (.int .u32 0) (.int .u64 0) nilV nilV).below HD6.out.d.rl (fun i e => by omega)))
 have HZb := hid hZb
 simp only [set9,set5] at HZb HBb
 clear hZb
 generalize ((((((((w6.setCell ⟨Rb,0,none⟩ (.int .i64 0)).setCell ⟨Rb,1,none⟩ (.int .i64 0)).setCell ⟨Rb,2,none⟩ (.complex .f64 0 0)).setCell ⟨Rb,3,none⟩ (.string ⟨#[]⟩)).setCell ⟨Rb,4,none⟩ (.int .i64 0)).setCell ⟨Rb,5,none⟩ (.int .u32 0)).setCell ⟨Rb,6,none⟩ (.int .u64 0)).setCell ⟨Rb,7,none⟩ nilV).setCell ⟨Rb,8,none⟩ nilV = wb at *
 obtain ⟨z0,z1,z2,z3,z4,z5,z6,z7,z8⟩ := NineAt.of_block HZb.out
 go_wp2_with fail
 exact bodyPost_ret (v := .tuple #[.agg zC,.int .i64 71]) (by simp [results,Try.results14,go_sem,z0,z1,z2,z3,z4,z5,z6,z7,z8]) rfl (by rw [HK.out]; exact ⟨rfl,HN.out ▸ HBb.out.drew⟩)
set_option maxHeartbeats 4000000 in
theorem rdec_go (a : Option Addr) (c : Nat) (bs : List UInt8) (w : World) (h : Sl w (.slice a bs.length c) (bs.map cellB)) (hl : bs.length ≤ 131072) (s1 : St) (ho : oneP bs ⟨0,0,[]⟩ = .ok (69,s1)) :
  Calls Try.prog 14 #[.slice a bs.length c] w (DecPost w (decodeP bs)) := by
 have H := hid h
 have hlI : (bs.length : Int) ≤ 131072 := by omega
 have hdl : decide ((131072 : Int) < (bs.length : Int)) = false := decide_eq_false (by omega)
 clear h
 go_enter Try.func14,Try.ntmps14
 go_wp2_with fail
 have HR1 := hid (heap_new w (.cells #[.int .i64 0,.int .i64 0,.complex .f64 0 0,.string ⟨#[]⟩,.int .i64 0,.int .u32 0,.int .u64 0,nilV,nilV] 31))
 have HB1 := hid ((Below.refl w.heap.size w).alloc (Nat.le_refl _) (.cells #[.int .i64 0,.int .i64 0,.complex .f64 0 0,.string ⟨#[]⟩,.int .i64 0,.int .u32 0,.int .u64 0,nilV,nilV] 31))
 generalize w.alloc (.cells #[.int .i64 0,.int .i64 0,.complex .f64 0 0,.string ⟨#[]⟩,.int .i64 0,.int .u32 0,.int .u64 0,nilV,nilV] 31) = w1 at *
 obtain ⟨Rb,hRb⟩ : ∃ X,w.heap.size = X := ⟨_,rfl⟩
 rw [hRb] at HR1 HB1 ⊢
 have HN := hid hRb
 clear hRb
 have H1 := rone_any a c bs ⟨0,0,[]⟩ none 0 w1 ⟨H.out.below (HN.out ▸ HB1.out),Strs.nil _,hl,Nat.zero_le _,by decide⟩
 have HK0 := hid (show decodeP bs = match partP bs 24 s1 with | .error e => .error e | .ok (t,s) => if s.i < bs.length then .error 74 else .ok t by rw [decodeP_eq bs (by omega),ho]; rfl)
 rw [ho] at H1
 have H1 := hid H1
 have HS1 := hid (oneP_ok ho).2
 clear ho hdl
 refine H1.out.mono ?_
 rintro e w2 ⟨rfl,hb⟩
 have HR2 := hid ((hb.block _ (blk_lt HR1.out)).trans HR1.out)
 have HB2 := hid (HB1.out.trans (hb.mono (Nat.le_of_lt (blk_lt HR1.out))))
 clear hb HR1 HB1 H1
 have HD3 : Hid (DA Rb w2.heap.size #[.slice a bs.length c,.int .i64 (s1.i : Int),.int .i64 (s1.n : Int),.slice none 0 0,.int .i64 0] w (w2.alloc (.cells #[.slice a bs.length c,.int .i64 (s1.i : Int),.int .i64 (s1.n : Int),.slice none 0 0,.int .i64 0] 80))) := hid ⟨(Below.heap_alloc _ _ _ (blk_lt HR2.out)).trans HR2.out,heap_new w2 _,HB2.out.alloc (Nat.le_of_lt (blk_lt HR2.out)) _,blk_lt HR2.out⟩
 go_upto_region 4 with fail
 generalize w2.alloc (.cells #[.slice a bs.length c,.int .i64 (s1.i : Int),.int .i64 (s1.n : Int),.slice none 0 0,.int .i64 0] 80) = w3 at *
 generalize w2.heap.size = Xb at *
 clear HR2 HB2
 obtain ⟨k0,k1,k2,k3,k4⟩ := FiveAt.of_block HD3.out.xb
 go_upto_region 6 with fail
 clear k0 k1 k2 k3 k4
 have HD4 := hid (HD3.out.newT #[.int .i64 0,.int .i64 0,.complex .f64 0 0,.string ⟨#[]⟩,.int .i64 0,.int .u32 0,.int .u64 0,nilV,nilV])
 obtain ⟨k0,k1,k2,k3,k4⟩ := FiveAt.of_block HD4.out.d.xb
 go_upto_region 7 with fail
 clear k0 k1 k2 k3 k4
 generalize w3.alloc (.cells #[.int .i64 0,.int .i64 0,.complex .f64 0 0,.string ⟨#[]⟩,.int .i64 0,.int .u32 0,.int .u64 0,nilV,nilV] 31) = w4 at *
 generalize w3.heap.size = Tb at *
 clear HD3
 have hnm : s1.names.length = 0 := by rw [HS1.out.1]; rfl
 have hn0 : s1.n = 0 := by rw [HS1.out.1]
 have H2 := refpart_any a c bs 24 (by omega) 1 (by omega) none 0 s1 w4 ⟨H.out.below (HN.out ▸ HD4.out.d.below),by rw [HS1.out.1]; exact Strs.nil _,hl,by rw [HS1.out.1]; exact HS1.out.2,by omega⟩ (by omega)
 rw [hnm] at H2
 have H2 := hid H2
 clear hnm hn0
 obtain ⟨k0,k1,k2,k3,k4⟩ := FiveAt.of_block HD4.out.d.xb
 go_wp2_with fail
 clear k0 k1 k2 k3 k4
 refine H2.out.mono ?_
 rintro e w5 hr
 obtain ⟨i,n,na,nl,nc,code,q0,q1,q2,q3,q4,q5,q6,q7,q8,q9,q10,q11,q12,q13,rfl,hb,hP⟩ := rpt_gen hr (part_err bs 24 s1)
 have HP := hid hP
 have HD5 := hid (HD4.out.call hb)
 have HW4 := hid (show Rb ≤ w4.heap.size ∧ Xb < w4.heap.size ∧ Tb < w4.heap.size from ⟨HD4.out.d.rl,blk_lt HD4.out.d.xb,blk_lt HD4.out.tb⟩)
 clear hr hb hP HD4 H2
 have hxb := HD5.out.d.xb
 have htb := (HD5.out.rowX #[.slice a bs.length c,.int .i64 i,.int .i64 n,.slice na nl nc,.int .i64 code]).tb
 go_upto_region 9 with (first
  | (refine wpList_store_row rfl 80 (.tmp 4) (.tmp 33) rfl Xb #[.slice a bs.length c,.int .i64 i,.int .i64 n,.slice na nl nc,.int .i64 code] rfl rfl 80 #[.slice a bs.length c,.int .i64 (s1.i : Int),.int .i64 (s1.n : Int),.slice none 0 0,.int .i64 0] hxb infoS rfl (by simp [Array.all,Value.oneCell']) ?_)
  | (refine wpList_store_row rfl 31 (.tmp 6) (.tmp 34) rfl Tb #[.int .i64 q0,.int .i64 q1,.complex .f64 q2 q3,.string q4,.int .i64 q5,.int .u32 q6,.int .u64 q7,.slice q8 q9 q10,.slice q11 q12 q13] rfl rfl 31 #[.int .i64 0,.int .i64 0,.complex .f64 0 0,.string ⟨#[]⟩,.int .i64 0,.int .u32 0,.int .u64 0,nilV,nilV] htb infoT9' rfl (by simp [Array.all,Value.oneCell']) ?_))
 have HD6 := hid ((HD5.out.rowX #[.slice a bs.length c,.int .i64 i,.int .i64 n,.slice na nl nc,.int .i64 code]).rowT #[.int .i64 q0,.int .i64 q1,.complex .f64 q2 q3,.string q4,.int .i64 q5,.int .u32 q6,.int .u64 q7,.slice q8 q9 q10,.slice q11 q12 q13])
 have HT6 := hid (((setRow_turn w5 Xb #[.slice a bs.length c,.int .i64 i,.int .i64 n,.slice na nl nc,.int .i64 code]).mono (S' := fun i => i = Xb ∨ i = Tb) fun i _ e => .inl e).trans ((setRow_turn (w5.setRow Xb #[.slice a bs.length c,.int .i64 i,.int .i64 n,.slice na nl nc,.int .i64 code]) Tb #[.int .i64 q0,.int .i64 q1,.complex .f64 q2 q3,.string q4,.int .i64 q5,.int .u32 q6,.int .u64 q7,.slice q8 q9 q10,.slice q11 q12 q13]).mono fun i _ e => .inr e))
 clear HD5 hxb htb
 generalize (w5.setRow Xb #[.slice a bs.length c,.int .i64 i,.int .i64 n,.slice na nl nc,.int .i64 code]).setRow Tb #[.int .i64 q0,.int .i64 q1,.complex .f64 q2 q3,.string q4,.int .i64 q5,.int .u32 q6,.int .u64 q7,.slice q8 q9 q10,.slice q11 q12 q13] = w6 at *
 rcases HP.out with ⟨hc,hk⟩ | ⟨rfl,t,s2,hk,rfl,rfl,rfl,hst,hrep,hnn⟩
 ·have HK := hid (show decodeP bs = .error code by rw [HK0.out,hk])
  have hcb : (code == 0) = false := beq_eq_false_iff_ne.2 hc
  have hcb2 : (code != 0) = true := bne_iff_ne.2 hc
  clear HP hk hc
  obtain ⟨r0,r1,r2,r3,r4,r5,r6,r7,r8⟩ := NineAt.of_block HD6.out.d.rb
  have rf := blk_fz HD6.out.d.rb
  obtain ⟨k0,k1,k2,k3,k4⟩ := FiveAt.of_block HD6.out.d.xb
  have hRX : ¬ Rb = Xb := by have := HD6.out.d.rx; omega
  go_upto_region 12 with fail
  go_region_held3 (fun w' => w'.cell? ⟨Xb,4,none⟩ = some (.int .i64 code)) (go_keep) (fail)
  rename_i hHeld
  clear hHeld r0 r1 r2 r3 r4 r5 r6 r7 r8 rf k0 k1 k2 k3 k4 hRX
  have hZb := nine_set HD6.out.d.rb (d0 := (.int .i64 0)) (d1 := (.int .i64 0)) (d2 := (.complex .f64 0 0)) (d3 := (.string ⟨#[]⟩)) (d4 := (.int .i64 0)) (d5 := (.int .u32 0)) (d6 := (.int .u64 0)) (d7 := nilV) (d8 := nilV)
  have HBb := hid (HD6.out.d.below.trans ((nine_turn w6 Rb (.int .i64 0) (.int .i64 0) (.complex .f64 0 0) (.string ⟨#[]⟩) (.int .i64 0) (.int .u32 0) (.int .u64 0) nilV nilV).below HD6.out.d.rl (fun i e => by omega)))
  have HZb := hid hZb
  simp only [set9,set5] at HZb HBb
  clear hZb
  generalize ((((((((w6.setCell ⟨Rb,0,none⟩ (.int .i64 0)).setCell ⟨Rb,1,none⟩ (.int .i64 0)).setCell ⟨Rb,2,none⟩ (.complex .f64 0 0)).setCell ⟨Rb,3,none⟩ (.string ⟨#[]⟩)).setCell ⟨Rb,4,none⟩ (.int .i64 0)).setCell ⟨Rb,5,none⟩ (.int .u32 0)).setCell ⟨Rb,6,none⟩ (.int .u64 0)).setCell ⟨Rb,7,none⟩ nilV).setCell ⟨Rb,8,none⟩ nilV = wb at *
  obtain ⟨z0,z1,z2,z3,z4,z5,z6,z7,z8⟩ := NineAt.of_block HZb.out
  go_wp2_with fail
  exact bodyPost_ret (v := .tuple #[.agg zC,.int .i64 code]) (by simp [results,Try.results14,go_sem,z0,z1,z2,z3,z4,z5,z6,z7,z8]) rfl (by rw [HK.out]; exact ⟨rfl,HN.out ▸ HBb.out.drew⟩)
 ·by_cases hi : s2.i < bs.length
  ·have HK := hid (show decodeP bs = .error 74 by rw [HK0.out,hk]; exact if_pos hi)
   have hi2 : (s2.i : Int) < (bs.length : Int) := by omega
   clear HP hk hst hrep hnn
   obtain ⟨k0,k1,k2,k3,k4⟩ := FiveAt.of_block HD6.out.d.xb
   go_wp2_with fail
   clear k0 k1 k2 k3 k4
   refine (rfail0 _ _ _ _ _ _ _ _ 74 _).mono ?_
   rintro e w7 ⟨rfl,hb⟩
   have HD7 := hid (HD6.out.call hb)
   clear hb HD6
   go_upto_region 11 with (refine wpList_store_row rfl 80 (.tmp 4) (.tmp 46) rfl Xb #[.slice a bs.length c,.int .i64 (s2.i : Int),.int .i64 (s2.n : Int),.slice na s2.names.length nc,.int .i64 74] rfl rfl 80 #[.slice a bs.length c,.int .i64 (s2.i : Int),.int .i64 (s2.n : Int),.slice na s2.names.length nc,.int .i64 0] HD7.out.d.xb infoS rfl (by simp [Array.all,Value.oneCell']) ?_)
   have HD8 := hid (HD7.out.rowX #[.slice a bs.length c,.int .i64 (s2.i : Int),.int .i64 (s2.n : Int),.slice na s2.names.length nc,.int .i64 74])
   clear HD7
   generalize w7.setRow Xb #[.slice a bs.length c,.int .i64 (s2.i : Int),.int .i64 (s2.n : Int),.slice na s2.names.length nc,.int .i64 74] = w8 at *
   obtain ⟨r0,r1,r2,r3,r4,r5,r6,r7,r8⟩ := NineAt.of_block HD8.out.d.rb
   have rf := blk_fz HD8.out.d.rb
   obtain ⟨k0,k1,k2,k3,k4⟩ := FiveAt.of_block HD8.out.d.xb
   have hRX : ¬ Rb = Xb := by have := HD8.out.d.rx; omega
   go_upto_region 12 with fail
   go_region_held3 (fun w' => w'.cell? ⟨Xb,4,none⟩ = some (.int .i64 74)) (go_keep) (fail)
   rename_i hHeld
   clear hHeld r0 r1 r2 r3 r4 r5 r6 r7 r8 rf k0 k1 k2 k3 k4 hRX
   have hZb := nine_set HD8.out.d.rb (d0 := (.int .i64 0)) (d1 := (.int .i64 0)) (d2 := (.complex .f64 0 0)) (d3 := (.string ⟨#[]⟩)) (d4 := (.int .i64 0)) (d5 := (.int .u32 0)) (d6 := (.int .u64 0)) (d7 := nilV) (d8 := nilV)
   have HBb := hid (HD8.out.d.below.trans ((nine_turn w8 Rb (.int .i64 0) (.int .i64 0) (.complex .f64 0 0) (.string ⟨#[]⟩) (.int .i64 0) (.int .u32 0) (.int .u64 0) nilV nilV).below HD8.out.d.rl (fun i e => by omega)))
   have HZb := hid hZb
   simp only [set9,set5] at HZb HBb
   clear hZb
   generalize ((((((((w8.setCell ⟨Rb,0,none⟩ (.int .i64 0)).setCell ⟨Rb,1,none⟩ (.int .i64 0)).setCell ⟨Rb,2,none⟩ (.complex .f64 0 0)).setCell ⟨Rb,3,none⟩ (.string ⟨#[]⟩)).setCell ⟨Rb,4,none⟩ (.int .i64 0)).setCell ⟨Rb,5,none⟩ (.int .u32 0)).setCell ⟨Rb,6,none⟩ (.int .u64 0)).setCell ⟨Rb,7,none⟩ nilV).setCell ⟨Rb,8,none⟩ nilV = wb at *
   obtain ⟨z0,z1,z2,z3,z4,z5,z6,z7,z8⟩ := NineAt.of_block HZb.out
   go_wp2_with fail
   exact bodyPost_ret (v := .tuple #[.agg zC,.int .i64 74]) (by simp [results,Try.results14,go_sem,z0,z1,z2,z3,z4,z5,z6,z7,z8]) rfl (by rw [HK.out]; exact ⟨rfl,HN.out ▸ HBb.out.drew⟩)
  ·have HK := hid (show decodeP bs = .ok t by rw [HK0.out,hk]; exact if_neg hi)
   have hi2 : ¬ (s2.i : Int) < (bs.length : Int) := by omega
   have hi3 : decide ((s2.i : Int) < (bs.length : Int)) = false := decide_eq_false hi2
   have hi4 : decide (s2.i < bs.length) = false := decide_eq_false hi
   have HRep := hid hrep
   clear HP hk hst hrep hnn
   obtain ⟨k0,k1,k2,k3,k4⟩ := FiveAt.of_block HD6.out.d.xb
   obtain ⟨t0,t1,t2,t3,t4,t5,t6,t7,t8⟩ := NineAt.of_block HD6.out.tb
   go_wp2_with (refine wpList_store_row rfl 31 (.tmp 2) (.tmp 53) rfl Rb #[.int .i64 q0,.int .i64 q1,.complex .f64 q2 q3,.string q4,.int .i64 q5,.int .u32 q6,.int .u64 q7,.slice q8 q9 q10,.slice q11 q12 q13] rfl rfl 31 #[.int .i64 0,.int .i64 0,.complex .f64 0 0,.string ⟨#[]⟩,.int .i64 0,.int .u32 0,.int .u64 0,nilV,nilV] HD6.out.d.rb infoT9' rfl (by simp [Array.all,Value.oneCell']) ?_)
   clear k0 k1 k2 k3 k4 t0 t1 t2 t3 t4 t5 t6 t7 t8
   have hR7 := setRow_heap w6 Rb #[.int .i64 0,.int .i64 0,.complex .f64 0 0,.string ⟨#[]⟩,.int .i64 0,.int .u32 0,.int .u64 0,nilV,nilV] #[.int .i64 q0,.int .i64 q1,.complex .f64 q2 q3,.string q4,.int .i64 q5,.int .u32 q6,.int .u64 q7,.slice q8 q9 q10,.slice q11 q12 q13] 31 (0,0) HD6.out.d.rb
   have HB7 := hid (HD6.out.d.below.trans ((setRow_turn w6 Rb #[.int .i64 q0,.int .i64 q1,.complex .f64 q2 q3,.string q4,.int .i64 q5,.int .u32 q6,.int .u64 q7,.slice q8 q9 q10,.slice q11 q12 q13]).below HD6.out.d.rl (fun i e => by omega)))
   have HRep7 := hid (Rep.mono (F' := fun b => w.heap.size ≤ b) (fun b e _ => by have := HN.out; have := HW4.out.1; omega) _ _ (Rep.keep (w' := w6.setRow Rb #[.int .i64 q0,.int .i64 q1,.complex .f64 q2 q3,.string q4,.int .i64 q5,.int .u32 q6,.int .u64 q7,.slice q8 q9 q10,.slice q11 q12 q13]) (fun b e hb => (setRow_other w6 Rb b #[.int .i64 q0,.int .i64 q1,.complex .f64 q2 q3,.string q4,.int .i64 q5,.int .u32 q6,.int .u64 q7,.slice q8 q9 q10,.slice q11 q12 q13] (by have := HW4.out; have := HD6.out.d.rx; omega)).trans (HT6.out.block b hb (by have := HW4.out; omega))) _ _ HRep.out))
   clear HD6 HT6 HRep
   generalize w6.setRow Rb #[.int .i64 q0,.int .i64 q1,.complex .f64 q2 q3,.string q4,.int .i64 q5,.int .u32 q6,.int .u64 q7,.slice q8 q9 q10,.slice q11 q12 q13] = w7 at *
   obtain ⟨z0,z1,z2,z3,z4,z5,z6,z7,z8⟩ := NineAt.of_block hR7
   exact bodyPost_ret (v := .tuple #[.agg #[.int .i64 q0,.int .i64 q1,.complex .f64 q2 q3,.string q4,.int .i64 q5,.int .u32 q6,.int .u64 q7,.slice q8 q9 q10,.slice q11 q12 q13],.int .i64 0]) (by simp [results,Try.results14,go_sem,z0,z1,z2,z3,z4,z5,z6,z7,z8]) rfl (by rw [HK.out]; exact ⟨_,rfl,HRep7.out,HN.out ▸ HB7.out⟩)
theorem refdecode_any (bv : Value) (bs : List UInt8) (w : World) (h : Sl w bv (bs.map cellB)) : Calls Try.prog 14 #[bv] w (DecPost w (decodeP bs)) := by
 have h2 := h
 obtain ⟨a,c,rfl,hm,_⟩ := h2
 rw [List.length_map] at h ⊢
 by_cases hl : 131072 < bs.length
 ·exact rdec_long a c bs w hl
 ·cases ho : oneP bs ⟨0,0,[]⟩ with
  | error x =>
   obtain rfl := oneP_e72 ho
   exact rdec_short a c bs w h (by omega) ho
  | ok y =>
   obtain ⟨x,s1⟩ := y
   by_cases hx : x = 69
   ·subst hx
    exact rdec_go a c bs w h (by omega) s1 ho
   ·exact rdec_mark a c bs w h (by omega) x s1 ho hx
end Go.Proofs.Ytgadkiljnebicaa
namespace Go.Proofs.Ytgadkiljnebicaa
open Go.Lib (hid)
open Go.RowKit Go.WideShapes Go.ChangeShapes
set_option maxRecDepth 100000
theorem dec_read {bs : List UInt8} {t : Tm} (h : decodeP bs = .ok t) : GoodT 24 t ∧ sizeT t ≤ 4096 := by
 unfold decodeP at h
 split at h
 ·cases h
 ·cases ho : oneP bs ⟨0,0,[]⟩ with
  | error e => rw [ho] at h; cases h
  | ok y =>
   obtain ⟨c,s⟩ := y
   obtain ⟨_,o2,_⟩ := oneP_ok ho
   rw [ho] at h
   simp only at h
   split at h
   ·cases h
   ·cases hp : partP bs 24 s with
    | error e => rw [hp] at h; cases h
    | ok z =>
     obtain ⟨t2,s2⟩ := z
     rw [hp] at h
     simp only at h
     split at h
     ·cases h
     ·cases h
      have r := part_read bs 24 s t s2 hp
      have hn : s.n = 0 := by rw [o2]
      have hnm : s.names = [] := by rw [o2]
      refine ⟨(r.good (by rw [hnm]; simp)).1,?_⟩
      have := r.cnt
      have := r.le
      omega
def outOf : Except Int Tm → Tm × Int
 | .ok t => (t,0)
 | .error x => (.mk {} [],x)
theorem hd_fin {h : Hd} {l : List Tm} (k : HdOk h l) : HdFin h := by
 have z : (FloatKind.f64.format.order 0 0 == some .eq) = true := order_self (by decide)
 cases k with
 | cx p q hp hq h =>
  have h2 : okF p = true ∧ okF q = true := by simpa using h
  refine ⟨order_self ?_,order_self ?_⟩
  ·have := h2.1; simp [okF] at this; exact this.1
  ·have := h2.2; simp [okF] at this; exact this.1
 | _ => exact ⟨z,z⟩
mutual
theorem flat_fin : ∀ (r : Nat) (t : Tm),GoodT r t → ∀ x ∈ flatT t,HdFin x.1 ∧ x.1.b.length ≤ sizeT t
 | 0,_,h,_,_ => h.elim
 | r + 1,.mk h l,hg,x,hx => by
  simp only [flatT,List.mem_cons] at hx
  rcases hx with rfl | hx
  ·exact ⟨hd_fin hg.1,by simp only [sizeT]; omega⟩
  ·have := flats_fin r l hg.2 x hx
   exact ⟨this.1,by simp only [sizeT]; omega⟩
theorem flats_fin : ∀ (r : Nat) (l : List Tm),(∀ t ∈ l,GoodT r t) → ∀ x ∈ flatTs l,HdFin x.1 ∧ x.1.b.length ≤ sizeTs l
 | _,[],_,x,hx => by simp [flatTs] at hx
 | r,t :: l,hg,x,hx => by
  simp only [flatTs,List.mem_append] at hx
  rcases hx with hx | hx
  ·have := flat_fin r t (hg t (by simp)) x hx
   exact ⟨this.1,by simp only [sizeTs]; omega⟩
  ·have := flats_fin r l (fun t ht => hg t (by simp [ht])) x hx
   exact ⟨this.1,by simp only [sizeTs]; omega⟩
end
theorem bytes_open {H : Type} {enc : TypeId × Value → H} {w : World} {x : Option Addr} {len cap : Nat} {d : DataW H} {ps : List MemPlace} (h : DataW.Trod enc Try.prog w 0 (fun _ => true) true 22 (.slice x len cap) d ps) :
  ∃ bs : List UInt8,Sl w (.slice x len cap) (bs.map cellB) := by
 obtain ⟨zs,_,_,hs,hw,_⟩ := sl_open Try.underlying22 Try.underlying5 (by kernel_rfl) h
 refine ⟨zs.map fun z => UInt8.ofNat z.toNat,?_⟩
 have e : (zs.map fun z => UInt8.ofNat z.toNat).map cellB = zs.map (Value.int .u8) := by
  rw [List.map_map]
  refine List.map_congr_left fun z hz => ?_
  have hwz := hw z hz
  have hz2 : 0 ≤ z ∧ z < 256 := by
   simp [Lit.wf] at hwz
   have e1 : IntKind.u8.min = 0 := by decide
   have e2 : IntKind.u8.max = 255 := by decide
   omega
  show Value.int .u8 _ = _
  rw [ofNat_toNat]
  congr 1
  omega
 rw [e]
 exact hs
end Go.Proofs.Ytgadkiljnebicaa
