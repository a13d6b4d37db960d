/- Several texts in one. -/
import Derived.Test.YtgadkiljnebicaaD09
import Derived.Test.YtgadkiljnebicaaD05
import Derived.Test.YtgadkiljnebicaaD06
namespace Go.Proofs.Ytgadkiljnebicaa
open Go.Lib (hid)
open Go.RowKit
set_option maxRecDepth 100000
attribute [local go_sem] run_store_complex
theorem rep_hdC {w : World} {F : Nat → Prop} {t : Tm} {c : Array Value} (h : Rep w F t c) : ∃ (a1 : Option Addr) (c1 : Nat) (a2 : Option Addr) (c2 : Nat),c = hdC t.hd (.slice a1 t.hd.b.length c1) (.slice a2 t.l.length c2) := by
 obtain ⟨hd,l⟩ := t
 obtain ⟨bv,lv,rfl,hb,vs,hlv,_⟩ := h
 obtain ⟨a1,c1,rfl⟩ := row_slice_q hb
 obtain ⟨a2,c2,rfl⟩ := row_slice_q hlv
 exact ⟨_,_,_,_,rfl⟩
set_option maxHeartbeats 2000000 in
theorem shaped_any (k : Int) (t : Tm) (F : Nat → Prop) (c : Array Value) (w : World) (hrep : Rep w F t c) (hl : t.l.length ≤ 1000000) : Calls Try.prog 28 #[.int .i64 k,.agg c] w (RB w (.bool (shapedB k t))) := by
 have HB := hid ((Below.refl w.heap.size w).alloc (Nat.le_refl _) (.cells c 31))
 have HR := hid (Rep.keep (fun b _ hb => HB.out.block b hb) _ _ hrep)
 obtain ⟨a1,c1,a2,c2,rfl⟩ := rep_hdC hrep
 have HL := hid hl
 clear hrep hl
 by_cases h8 : k = 8
 ·subst h8
  have hp : shapedB 8 t = pairB 7 t := by simp [shapedB]
  rw [hp]
  clear hp
  go_enter Try.func28,Try.ntmps28
  go_wp2_with fail
  refine (two_any 7 t F _ _ HR.out HL.out).mono ?_
  rintro e w1 ⟨rfl,hb⟩
  have HB1 := hid (HB.out.trans (hb.mono HB.out.size))
  clear hb
  go_wp2_with fail
  go_ret
  exact ⟨rfl,HB1.out⟩
 by_cases h10 : k = 10
 ·subst h10
  have hp : shapedB 10 t = pairB 5 t := by simp [shapedB]
  rw [hp]
  clear hp
  go_enter Try.func28,Try.ntmps28
  go_wp2_with fail
  refine (two_any 5 t F _ _ HR.out HL.out).mono ?_
  rintro e w1 ⟨rfl,hb⟩
  have HB1 := hid (HB.out.trans (hb.mono HB.out.size))
  clear hb
  go_wp2_with fail
  go_ret
  exact ⟨rfl,HB1.out⟩
 by_cases h11 : k = 11
 ·subst h11
  have HP := hid (show shapedB 11 t = (t.hd.kind == 3) by unfold shapedB; rw [if_neg (by decide),if_neg (by decide),if_pos rfl]; rfl)
  go_enter Try.func28,Try.ntmps28
  go_wp2_with fail
  go_ret
  exact ⟨ret_bool HP.out.symm,HB.out⟩
 ·have HP := hid (show shapedB k t = true by simp only [shapedB]; rw [if_neg h8,if_neg h10,if_neg h11])
  have e8 : (k == 8) = false := beq_eq_false_iff_ne.2 h8
  have e10 : (k == 10) = false := beq_eq_false_iff_ne.2 h10
  have e11 : (k == 11) = false := beq_eq_false_iff_ne.2 h11
  clear h8 h10 h11
  go_enter Try.func28,Try.ntmps28
  go_wp2_with fail
  go_ret
  exact ⟨ret_bool HP.out.symm,HB.out⟩
theorem int_any (n : Int) (w : World) : Calls Try.prog 26 #[.int .i64 n] w (RB w (v1 n)) := by
 go_enter Try.func26,Try.ntmps26
 go_wp2_with fail
 exact bodyPost_ret (v := v1 n) (by simp [results,Try.results26,go_sem]) rfl ⟨rfl,(Below.refl w.heap.size w).alloc (Nat.le_refl _) _⟩
end Go.Proofs.Ytgadkiljnebicaa
namespace Go.Proofs.Ytgadkiljnebicaa
open Go.Lib (hid)
open Go.RowKit
set_option maxRecDepth 100000
attribute [local go_sem] run_store_complex run_store_func' run_store_nilFunc'
theorem enters {f : FuncId} {fn : Func} (hf : Try.prog.funcs[f]? = some fn) (hn : (fn.name == "runtime.NumGoroutine") = false) (hb : fn.body.isSome = true) : ∀ args w,(callFunc f args).run Try.prog w = .ok (.enter f args) w := fun args w => by
 obtain ⟨c,hc⟩ := Option.isSome_iff_exists.1 hb
 have hn' : ¬ fn.name = "runtime.NumGoroutine" := by simpa using hn
 simp [callFunc,hf,hn',hc]
theorem good9 (s : ByteArray) (hs : s.size ≤ maxLen) (w : World) : Calls Try.prog 72 #[vA s] w (RB w (.bool (nameB s))) := by
 have HR := hid (fun w => tmname_any s w hs)
 generalize nameB s = d at *
 go_enter Try.func72,Try.ntmps72
 go_wp2_with fail
 refine (HR.out _).mono ?_
 rintro e w1 ⟨rfl,hb1⟩
 have HB := hid hb1
 clear hb1
 go_wp2_with fail
 go_ret
 exact ⟨rfl,((Below.refl w.heap.size w).alloc (Nat.le_refl _) _).trans (HB.out.mono (by simp))⟩
theorem look_good : ∀ (rest : Nat) (t : Tm),rest ≤ 24 → GoodT rest t → ∀ (F : Nat → Prop) (c : Array Value) (p m : Nat) (w : World),LkAt w p m → Rep w F t c → (∀ b,F b → b ≠ p) → m + sizeT t ≤ 4096 →
  ∀ d : Int,d = ((25 - rest : Nat) : Int) → Calls Try.prog 46 #[.pointer (some ⟨p,0,none⟩),.agg c,.int .i64 d] w (LkPost w p (m + sizeT t)) := by
 intro rest
 induction rest with
 | zero => intro t _ h; exact absurd h (by cases t; simp [GoodT])
 | succ rest ih =>
  rintro ⟨h,l⟩ hr ⟨hd,hl⟩ F c p m w hp hrep hF hsz d rfl
  have hrec : ∀ t ∈ l,∀ c m w,LkAt w p m → Rep w F t c → m + sizeT t ≤ 4096 → Calls Try.prog 46 #[.pointer (some ⟨p,0,none⟩),.agg c,.int .i64 (((25 - (rest + 1) : Nat) : Int) + 1)] w (LkPost w p (m + sizeT t)) :=
   fun t ht c m w hp hrep hs => ih t (by omega) (hl t ht) F c p m w hp hrep hF hs _ (by omega)
  have hdeep : 25 - (rest + 1) ≤ 24 := by omega
  generalize 25 - (rest + 1) = deep at *
  obtain ⟨bv,lv,rfl,hb,vs,hlv,hreps⟩ := hrep
  obtain ⟨ba,bc,rfl⟩ := row_slice hb.1
  obtain ⟨la,lc,rfl⟩ := row_slice hlv.1
  have hs' : m + 1 + h.b.length + sizeTs l ≤ 4096 := by simp only [sizeT] at hsz; omega
  have key : Calls Try.prog 46 #[.pointer (some ⟨p,0,none⟩),.agg (hdC h (.slice ba h.b.length bc) (.slice la l.length lc)),.int .i64 (deep : Int)] w (LkPost w p (m + 1 + h.b.length + sizeTs l)) := by
   cases hd with
   | int n hn =>
    have e1 := hb.2.2 rfl
    have e2 := hlv.2.2 rfl
    rw [e1,e2]
    rw [e1] at hb
    rw [e2] at hlv
    exact lk_walk 1 69 63 n 0 0 0 0 0 ⟨#[]⟩ none 0 0 none 0 [] vs deep F p m w (by decide) (by decide) (fun _ => rfl) (fun _ => rfl) (enters Try.func69 (by kernel_rfl) (by kernel_rfl)) (enters Try.func63 (by kernel_rfl) (by kernel_rfl)) (fun w => bare6 n w) (fun w => by have := good1a n w; rw [hn] at this; exact this) hrec hdeep (by simp) hs' hp hlv hreps hF
   | cx q r hq hr' ho =>
    have e1 := hb.2.2 rfl
    have e2 := hlv.2.2 rfl
    rw [e1,e2]
    rw [e1] at hb
    rw [e2] at hlv
    exact lk_walk 2 70 63 0 0 0 0 q r ⟨#[]⟩ none 0 0 none 0 [] vs deep F p m w (by decide) (by decide) (fun _ => rfl) (fun _ => rfl) (enters Try.func70 (by kernel_rfl) (by kernel_rfl)) (enters Try.func63 (by kernel_rfl) (by kernel_rfl)) (fun w => bare7 q r w) (fun w => by have := good1b q r hq hr' w; rw [ho] at this; exact this) hrec hdeep (by simp) hs' hp hlv hreps hF
   | atom s hn =>
    have e1 := hb.2.2 rfl
    have e2 := hlv.2.2 rfl
    rw [e1,e2]
    rw [e1] at hb
    rw [e2] at hlv
    exact lk_walk 3 71 72 0 0 0 0 0 0 s none 0 0 none 0 [] vs deep F p m w (by decide) (by decide) (fun _ => rfl) (fun _ => rfl) (enters Try.func71 (by kernel_rfl) (by kernel_rfl)) (enters Try.func72 (by kernel_rfl) (by kernel_rfl)) (fun w => bare8 s w) (fun w => by have := good9 s (by have := nameB_size hn; unfold maxLen; omega) w; rw [hn] at this; exact this) hrec hdeep (by simp) hs' hp hlv hreps hF
   | id k node boot idn hk _ _ _ hn =>
    have e1 := hb.2.2 rfl
    have e2 := hlv.2.2 rfl
    rw [e1,e2]
    rw [e1] at hb
    rw [e2] at hlv
    rcases hk with rfl | rfl
    ·exact lk_walk 4 67 64 0 node boot idn 0 0 ⟨#[]⟩ none 0 0 none 0 [] vs deep F p m w (by decide) (by decide) (fun _ => rfl) (fun _ => rfl) (enters Try.func67 (by kernel_rfl) (by kernel_rfl)) (enters Try.func64 (by kernel_rfl) (by kernel_rfl)) (fun w => bare4 4 node boot idn w) (fun w => by have := good2 4 node boot idn w; rw [hn] at this; exact this) hrec hdeep (by simp) hs' hp hlv hreps hF
    ·exact lk_walk 5 67 64 0 node boot idn 0 0 ⟨#[]⟩ none 0 0 none 0 [] vs deep F p m w (by decide) (by decide) (fun _ => rfl) (fun _ => rfl) (enters Try.func67 (by kernel_rfl) (by kernel_rfl)) (enters Try.func64 (by kernel_rfl) (by kernel_rfl)) (fun w => bare4 5 node boot idn w) (fun w => by have := good2 5 node boot idn w; rw [hn] at this; exact this) hrec hdeep (by simp) hs' hp hlv hreps hF
   | list k _ hk hl2 =>
    have e1 := hb.2.2 rfl
    rw [e1]
    rcases hk with rfl | rfl
    ·exact lk_walk 6 68 66 0 0 0 0 0 0 ⟨#[]⟩ none 0 0 la lc l vs deep F p m w (by decide) (by decide) (fun _ => rfl) (fun _ => rfl) (enters Try.func68 (by kernel_rfl) (by kernel_rfl)) (enters Try.func66 (by kernel_rfl) (by kernel_rfl)) (fun w => bare5 6 la _ lc w) (fun w => good3 _ w) hrec hdeep hl2 hs' hp hlv hreps hF
    ·exact lk_walk 7 68 66 0 0 0 0 0 0 ⟨#[]⟩ none 0 0 la lc l vs deep F p m w (by decide) (by decide) (fun _ => rfl) (fun _ => rfl) (enters Try.func68 (by kernel_rfl) (by kernel_rfl)) (enters Try.func66 (by kernel_rfl) (by kernel_rfl)) (fun w => bare5 7 la _ lc w) (fun w => good3 _ w) hrec hdeep hl2 hs' hp hlv hreps hF
   | bytes b =>
    have e2 := hlv.2.2 rfl
    rw [e2]
    rw [e2] at hlv
    exact lk_walk 8 74 66 0 0 0 0 0 0 ⟨#[]⟩ ba b.length bc none 0 [] vs deep F p m w (by decide) (by decide) (fun _ => rfl) (fun _ => rfl) (enters Try.func74 (by kernel_rfl) (by kernel_rfl)) (enters Try.func66 (by kernel_rfl) (by kernel_rfl)) (fun w => bare10 ba _ bc w) (fun w => good3 _ w) hrec hdeep (by simp) hs' hp hlv hreps hF
  refine key.mono ?_
  rintro e w' ⟨h1,h2,h3⟩
  exact ⟨h1,by simp only [sizeT]; rw [← Nat.add_assoc,← Nat.add_assoc]; exact h2,h3⟩
set_option maxHeartbeats 2000000 in
theorem lk_bad (k f1 f2 : Nat) (n node boot idn : Int) (re im : Nat) (s : ByteArray) (ba : Option Addr) (bn bc : Nat) (la : Option Addr) (lc : Nat) (l : List Tm) (deep : Nat) (p m : Nat) (w : World)
  (hk1 : 1 ≤ k) (hk8 : k ≤ 8) (ht1 : ∀ m : Int,(kL m)[1 + k * 2]? = some (fv f1)) (ht2 : ∀ m : Int,(kL m)[1 + k * 2 + 1]? = some (fv f2))
  (hc1 : ∀ args w,(callFunc f1 args).run Try.prog w = .ok (.enter f1 args) w) (hc2 : ∀ args w,(callFunc f2 args).run Try.prog w = .ok (.enter f2 args) w)
  (hbare : ∀ w,Calls Try.prog f1 #[.agg #[.int .i64 k,.int .i64 n,.complex .f64 re im,.string s,.int .i64 node,.int .u32 boot,.int .u64 idn,.slice ba bn bc,.slice la l.length lc]] w (RB w (vZ k)))
  (hgood : ∀ w,Calls Try.prog f2 #[.agg #[.int .i64 k,.int .i64 n,.complex .f64 re im,.string s,.int .i64 node,.int .u32 boot,.int .u64 idn,.slice ba bn bc,.slice la l.length lc]] w (RB w (.bool false)))
  (hdeep : deep ≤ 24) (hbn : m + 1 + bn ≤ 4096) (hp : LkAt w p m) :
  Calls Try.prog 46 #[.pointer (some ⟨p,0,none⟩),.agg #[.int .i64 k,.int .i64 n,.complex .f64 re im,.string s,.int .i64 node,.int .u32 boot,.int .u64 idn,.slice ba bn bc,.slice la l.length lc],.int .i64 (deep : Int)] w (fun e w' => e = .returned (.int .i64 24) ∧ Turn (fun i => i = p) w w') := by
 have HP := hid hp
 have T1 := hid ht1
 have T2 := hid ht2
 have B1 := hid hbare
 have B2 := hid hgood
 have lp := hp.lt
 have hk0 : (0 : Int) ≤ (k : Int) := by omega
 have hk9 : (k : Int) < 9 := by omega
 clear hp ht1 ht2 hbare hgood
 go_enter Try.func46,Try.ntmps46
 go_wp2_with fail
 have HT := hid (Turn.alloc (fun i => i = p) w (.cells #[.int .i64 k,.int .i64 n,.complex .f64 re im,.string s,.int .i64 node,.int .u32 boot,.int .u64 idn,.slice ba bn bc,.slice la l.length lc] 31))
 have HN := hid (nine_new w k n re im s node boot idn (.slice ba bn bc) (.slice la l.length lc) 31)
 have HP2 := hid (HP.out.block (((Below.refl _ w).alloc (Nat.le_refl _) (.cells #[.int .i64 k,.int .i64 n,.complex .f64 re im,.string s,.int .i64 node,.int .u32 boot,.int .u64 idn,.slice ba bn bc,.slice la l.length lc] 31)).block p lp))
 have hbp : ¬ w.heap.size = p := by omega
 have hsz2 : w.heap.size < (w.alloc (.cells #[.int .i64 k,.int .i64 n,.complex .f64 re im,.string s,.int .i64 node,.int .u32 boot,.int .u64 idn,.slice ba bn bc,.slice la l.length lc] 31)).heap.size := by simp
 generalize hbb : w.heap.size = b at *
 have HB := hid hbb
 clear hbb
 generalize w.alloc (.cells #[.int .i64 k,.int .i64 n,.complex .f64 re im,.string s,.int .i64 node,.int .u32 boot,.int .u64 idn,.slice ba bn bc,.slice la l.length lc] 31) = w2 at *
 have q0 : w2.cell? ⟨p,0,none⟩ = some (.int .i64 m) := HP2.out.cell 0 (by omega)
 have k7 := HN.out.2.2.2.2.2.2.2.1
 have HT2 : Hid (Turn (fun i => i = p) w w2.drew) := HT.out.drew
 have hsz3 : b < w2.drew.heap.size := hsz2
 go_still_tail 11,(by kernel_rfl)
 change wpList _ _ _ _ _ w2.drew
 have HN3 : Hid (NineAt w2.drew b k n re im s node boot idn (.slice ba bn bc) (.slice la l.length lc)) := HN.out
 have HP3 : Hid (LkAt w2.drew p m) := HP2.out
 clear q0 k7 HT HN HP2 hsz2
 generalize w2.drew = w3 at *
 have r0 : w3.cell? ⟨p,0,none⟩ = some (.int .i64 m) := HP3.out.cell 0 (by omega)
 have rf : w3.frozen? ⟨p,0,none⟩ = false := HP3.out.fz 0
 have k0 := HN3.out.1
 go_wp2_with fail
 have HP4 : Hid (LkAt (w3.setCell ⟨p,0,none⟩ (.int .i64 ((m : Int) + (1 + (bn : Int))))) p (m + (1 + bn))) := HP3.out.set (m := m + (1 + bn))
 have HT4 := hid (HT2.out.trans (Turn.setCell w3 p 0 (.int .i64 ((m : Int) + (1 + (bn : Int))))))
 have HN4 := hid (HN3.out.block (Below.heap_setCell w3 ⟨p,0,none⟩ (.int .i64 ((m : Int) + (1 + (bn : Int)))) _ hbp))
 have hs4 : b < (w3.setCell ⟨p,0,none⟩ (.int .i64 ((m : Int) + (1 + (bn : Int))))).heap.size := by simp [World.setCell]; omega
 clear r0 rf k0 HT2 HN3 HP3 hsz3
 generalize w3.setCell ⟨p,0,none⟩ (.int .i64 ((m : Int) + (1 + (bn : Int)))) = w4 at *
 have e3 : w4.cell? ⟨p,1 + k * 2,none⟩ = some (fv f1) := by
  have h := HP4.out
  unfold LkAt at h
  rw [← T1.out ((m + (1 + bn) : Nat) : Int)]
  simp [World.cell?,h]
 have e4 : w4.cell? ⟨p,1 + k * 2 + 1,none⟩ = some (fv f2) := by
  have h := HP4.out
  unfold LkAt at h
  rw [← T2.out ((m + (1 + bn) : Nat) : Int)]
  simp [World.cell?,h]
 have k0 := HN4.out.1
 have n3 := World.new_ne w4 ⟨p,1 + k * 2,none⟩ e3
 have n4 := World.new_ne w4 ⟨p,1 + k * 2 + 1,none⟩ e4
 have n0 := World.new_ne w4 ⟨b,0,none⟩ k0
 go_region_held3 (fun w' => w'.cell? ⟨p,1 + k * 2,none⟩ = some (fv f1) ∧ w'.cell? ⟨p,1 + k * 2 + 1,none⟩ = some (fv f2) ∧ w'.cell? ⟨b,0,none⟩ = some (.int .i64 k)) (go_keep) (fail)
 have HB5 : Below w4.heap.size w4 (w4.alloc (.cells #[fv f1,fv f2] 107)).drew := ((Below.refl _ w4).alloc (Nat.le_refl _) _).drew
 have HN5 : Hid (NineAt (w4.alloc (.cells #[fv f1,fv f2] 107)).drew b k n re im s node boot idn (.slice ba bn bc) (.slice la l.length lc)) := HN4.out.block (HB5.block b hs4)
 have HP5 : Hid (LkAt (w4.alloc (.cells #[fv f1,fv f2] 107)).drew p (m + (1 + bn))) := HP4.out.block (HB5.block p (by omega))
 have d0 : (w4.alloc (.cells #[fv f1,fv f2] 107)).drew.cell? ⟨w4.heap.size,0,none⟩ = some (fv f1) := by simp
 have d1 : (w4.alloc (.cells #[fv f1,fv f2] 107)).drew.cell? ⟨w4.heap.size,1,none⟩ = some (fv f2) := by simp
 have hs5 : w4.heap.size < (w4.alloc (.cells #[fv f1,fv f2] 107)).drew.heap.size := by simp
 have HT5 := hid (HT4.out.trans (Turn.of_below (S := fun i => i = p) HB5))
 clear k0 n0 n3 n4 e3 e4 HB5 T1 T2 HN4 HP4
 rename_i hHeld
 clear hHeld
 generalize (w4.alloc (.cells #[fv f1,fv f2] 107)).drew = w5 at *
 generalize w4.heap.size = dd at *
 clear HT4
 obtain ⟨k0,k1,k2,k3,k4,k5,k6,k7,k8⟩ := HN5.out
 go_wp2_with fail
 refine (B1.out _).mono ?_
 rintro e w6 ⟨rfl,hb6⟩
 go_wp2_with fail
 refine (empty_any _ _).mono ?_
 rintro e w7 ⟨rfl,hb7⟩
 have hb57 := hb6.trans (hb7.mono hb6.size)
 have HN7 := hid (HN5.out.block (hb57.block b (by omega)))
 have HP7 := hid (HP5.out.block (hb57.block p (by omega)))
 have e1 : w7.cell? ⟨dd,1,none⟩ = some (fv f2) := (hb57.cell (p := ⟨dd,1,none⟩) hs5).trans d1
 have HT7 := hid (HT5.out.trans (Turn.of_below (S := fun i => i = p) hb57))
 have hs7 : b < w7.heap.size := by have := hb57.size; omega
 clear hb6 hb7 hb57 k0 k1 k2 k3 k4 k5 k6 k7 k8 d0 d1 hs5 HT5 HN5 HP5 B1
 obtain ⟨k0,k1,k2,k3,k4,k5,k6,k7,k8⟩ := HN7.out
 go_wp2_with fail
 refine (B2.out _).mono ?_
 rintro e w8 ⟨rfl,hb8⟩
 have HT8 := hid (HT7.out.trans (Turn.of_below (S := fun i => i = p) hb8))
 clear hb8 k0 k1 k2 k3 k4 k5 k6 k7 k8 e1 HN7 HP7 HT7 B2
 go_wp2_with fail
 go_ret
 exact ⟨rfl,HT8.out⟩
end Go.Proofs.Ytgadkiljnebicaa
namespace Go.Proofs.Ytgadkiljnebicaa
open Go.Lib (hid)
open Go.RowKit
set_option maxRecDepth 100000
theorem infoU8 : (Try.prog.info? 5).map (fun i => (i.zero,i.size,i.bytes)) = some (some (.int .u8 0),1,1) := by kernel_rfl
structure WrAt (B Wb p m : Nat) (v : Value) (a : Option Addr) (c : Nat) (out : List UInt8) (names : List ByteArray) (W : World) : Prop where
 cells : W.heap[Wb]? = some (.cells #[.slice a out.length c,.pointer (some ⟨p,0,none⟩)] 93 (0,0))
 row : W.ownsRow B 5 1 (.slice a out.length c) out.length (out.map cellB)
 tab : Tab W p m v names
 far : ∀ b,(Value.slice a out.length c).ownBlock = some b → b ≠ Wb ∧ ¬ tabIn p m v b
 alone : ¬ tabIn p m v Wb
 from1 : B ≤ Wb
 from2 : ∀ i,tabIn p m v i → B ≤ i
theorem WrAt.wl {B Wb p m : Nat} {v : Value} {a : Option Addr} {c : Nat} {out : List UInt8} {names : List ByteArray} {W : World} (h : WrAt B Wb p m v a c out names W) : Wb < W.heap.size := (Array.getElem?_eq_some_iff.1 h.cells).1
theorem WrAt.bl {B Wb p m : Nat} {v : Value} {a : Option Addr} {c : Nat} {out : List UInt8} {names : List ByteArray} {W : World} (h : WrAt B Wb p m v a c out names W) : B ≤ W.heap.size := Nat.le_trans h.from1 (Nat.le_of_lt h.wl)
theorem WrAt.c0 {B Wb p m : Nat} {v : Value} {a : Option Addr} {c : Nat} {out : List UInt8} {names : List ByteArray} {W : World} (h : WrAt B Wb p m v a c out names W) : W.cell? ⟨Wb,0,none⟩ = some (.slice a out.length c) := by simp [World.cell?,h.cells]
theorem WrAt.c1 {B Wb p m : Nat} {v : Value} {a : Option Addr} {c : Nat} {out : List UInt8} {names : List ByteArray} {W : World} (h : WrAt B Wb p m v a c out names W) : W.cell? ⟨Wb,1,none⟩ = some (.pointer (some ⟨p,0,none⟩)) := by simp [World.cell?,h.cells]
theorem WrAt.fz {B Wb p m : Nat} {v : Value} {a : Option Addr} {c : Nat} {out : List UInt8} {names : List ByteArray} {W : World} (h : WrAt B Wb p m v a c out names W) (o : Nat) : W.frozen? ⟨Wb,o,none⟩ = false := by simp [World.frozen?,h.cells]
theorem WrAt.below {B Wb p m : Nat} {v : Value} {a : Option Addr} {c : Nat} {out : List UInt8} {names : List ByteArray} {W W' : World} (h : WrAt B Wb p m v a c out names W) (hb : Below W.heap.size W W') : WrAt B Wb p m v a c out names W' :=
 ⟨(hb.block _ h.wl).trans h.cells,row_same h.row fun b _ hl => hb.block b hl,h.tab.below hb,h.far,h.alone,h.from1,h.from2⟩
def wfoot (Wb p m : Nat) (v : Value) (a : Option Addr) (n c : Nat) (i : Nat) : Prop := i = Wb ∨ tabIn p m v i ∨ (Value.slice a n c).ownBlock = some i
structure WrStep (B Wb p m : Nat) (v : Value) (a : Option Addr) (c : Nat) (out : List UInt8) (W : World) (v' : Value) (a' : Option Addr) (c' : Nat) (out' : List UInt8) (names' : List ByteArray) (W' : World) : Prop where
 wr : WrAt B Wb p m v' a' c' out' names' W'
 turn : Turn (wfoot Wb p m v a out.length c) W W'
 own : (Value.slice a' out'.length c').ownBlock = (Value.slice a out.length c).ownBlock ∨ ∀ b,(Value.slice a' out'.length c').ownBlock = some b → W.heap.size ≤ b
 tabown : v'.ownBlock = v.ownBlock ∨ ∀ b,v'.ownBlock = some b → W.heap.size ≤ b
theorem WrAt.foot {B Wb p m : Nat} {v : Value} {a : Option Addr} {c : Nat} {out : List UInt8} {names : List ByteArray} {W : World} (h : WrAt B Wb p m v a c out names W) : ∀ i,wfoot Wb p m v a out.length c i → B ≤ i ∧ i < W.heap.size := by
 rintro i (rfl | e | e)
 ·exact ⟨h.from1,h.wl⟩
 ·refine ⟨h.from2 i e,?_⟩
  rcases e with e | e | e
  ·have := h.tab.lt.1; omega
  ·have := h.tab.lt.2.1; omega
  ·exact h.tab.lt.2.2 i e
 ·exact h.row.lt i e
theorem WrAt.stay {B Wb p m : Nat} {v : Value} {a : Option Addr} {c : Nat} {out : List UInt8} {names : List ByteArray} {W W' : World} (h : WrAt B Wb p m v a c out names W) (hb : Below W.heap.size W W') : WrStep B Wb p m v a c out W v a c out names W' :=
 ⟨h.below hb,Turn.of_below hb,.inl rfl,.inl rfl⟩
theorem WrStep.below {B Wb p m c c' : Nat} {v v' : Value} {a a' : Option Addr} {out out' : List UInt8} {names names' : List ByteArray} {W W' : World} (h : WrAt B Wb p m v a c out names W) (s : WrStep B Wb p m v a c out W v' a' c' out' names' W') : Below B W W' :=
 s.turn.below h.bl fun i e => (h.foot i e).1
theorem WrStep.trans {B Wb p m c c' c2 : Nat} {v v' v2 : Value} {a a' a2 : Option Addr} {out out' out2 : List UInt8} {names' names2 : List ByteArray} {W W' W2 : World} (s : WrStep B Wb p m v a c out W v' a' c' out' names' W') (t : WrStep B Wb p m v' a' c' out' W' v2 a2 c2 out2 names2 W2) :
  WrStep B Wb p m v a c out W v2 a2 c2 out2 names2 W2 := by
 have hsz := s.turn.size
 refine ⟨t.wr,s.turn.andThen t.turn ?_,?_,?_⟩
 ·rintro i (e | (e | e | e) | e)
  ·exact .inl (.inl e)
  ·exact .inl (.inr (.inl (.inl e)))
  ·exact .inl (.inr (.inl (.inr (.inl e))))
  ·rcases s.tabown with h | h
   ·exact .inl (.inr (.inl (.inr (.inr (h.symm.trans e)))))
   ·exact .inr (h i e)
  ·rcases s.own with h | h
   ·exact .inl (.inr (.inr (h.symm.trans e)))
   ·exact .inr (h i e)
 ·rcases t.own with h | h
  ·rw [h]; exact s.own
  ·exact .inr fun b e => Nat.le_trans hsz (h b e)
 ·rcases t.tabown with h | h
  ·rw [h]; exact s.tabown
  ·exact .inr fun b e => Nat.le_trans hsz (h b e)
theorem WrStep.keep {B Wb p m c c' i : Nat} {v v' : Value} {a a' : Option Addr} {out out' : List UInt8} {names' : List ByteArray} {W W' : World} (s : WrStep B Wb p m v a c out W v' a' c' out' names' W') (hi : i < W.heap.size) (hn : ¬ wfoot Wb p m v a out.length c i) : W'.heap[i]? = W.heap[i]? := s.turn.block i hi hn
theorem WrAt.app {B Wb p m k c c1 : Nat} {v : Value} {a a1 : Option Addr} {out news : List UInt8} {names : List ByteArray} {W W0 w1 : World} (h : WrAt B Wb p m v a c out names W) (hb0 : Below W.heap.size W W0) (hk : news.length = k) (hg : W0.grownBy w1 (Value.slice a out.length c).ownBlock)
  (ho : w1.ownsRow B 5 1 (.slice a1 (out.length + k) c1) (out.length + k) (out.map cellB ++ news.map cellB)) (hl : (Value.slice a1 (out.length + k) c1).ownBlock = (Value.slice a out.length c).ownBlock ∨ (Value.slice a1 (out.length + k) c1).ownBlock = some W0.heap.size) :
  WrStep B Wb p m v a c out W v a1 c1 (out ++ news) names (w1.setCell ⟨Wb,0,none⟩ (.slice a1 (out.length + k) c1)) := by
 subst hk
 have hT := Turn.of_grownBy hg
 have hs0 := hb0.size
 have hlen : (out ++ news).length = out.length + news.length := by simp
 have hrow : ∀ b,(Value.slice a out.length c).ownBlock = some b → B ≤ b := fun b e => (h.row.lt b e).1
 have hbW : ∀ i,i < W.heap.size → (Value.slice a out.length c).ownBlock ≠ some i → w1.heap[i]? = W.heap[i]? := fun i hi hn => (hT.block i (by omega) hn).trans (hb0.block i hi)
 have hset : ∀ i,i ≠ Wb → (w1.setCell ⟨Wb,0,none⟩ (.slice a1 (out.length + news.length) c1)).heap[i]? = w1.heap[i]? := fun i hi => Below.heap_setCell w1 ⟨Wb,0,none⟩ _ i hi
 have hWne : (Value.slice a out.length c).ownBlock ≠ some Wb := fun e => (h.far Wb e).1 rfl
 have hfar1 : ∀ b,(Value.slice a1 (out.length + news.length) c1).ownBlock = some b → b ≠ Wb ∧ ¬ tabIn p m v b := by
  intro b e
  rcases hl with hl | hl
  ·exact h.far b (hl.symm.trans e)
  ·have e2 := hl.symm.trans e
   cases e2
   refine ⟨by have := h.wl; omega,?_⟩
   rintro (e3 | e3 | e3)
   ·have := h.tab.lt.1; omega
   ·have := h.tab.lt.2.1; omega
   ·have := h.tab.lt.2.2 _ e3; omega
 refine ⟨⟨?_,?_,?_,?_,h.alone,h.from1,h.from2⟩,?_,?_,.inl rfl⟩
 ·rw [hlen]
  exact heap_setCell_at ((hbW Wb h.wl hWne).trans h.cells)
 ·rw [hlen,List.map_append]
  exact row_same ho fun b e _ => hset b (hfar1 b e).1
 ·exact h.tab.same fun i hi hil => (hset i fun e => h.alone (e ▸ hi)).trans (hbW i hil fun e => (h.far i e).2 hi)
 ·rw [hlen]
  exact hfar1
 ·exact ((Turn.of_below hb0).trans (hT.mono fun i _ e => .inr (.inr e))).trans ((Turn.setCell w1 Wb 0 _).mono fun i _ e => .inl e)
 ·rw [hlen]
  rcases hl with hl | hl
  ·exact .inl hl
  ·exact .inr fun b e => by have e2 := hl.symm.trans e; cases e2; exact hs0
def WrPost (B Wb p m : Nat) (v : Value) (a : Option Addr) (c : Nat) (out : List UInt8) (W : World) (out' : List UInt8) (names' : List ByteArray) (e : Ending) (w' : World) : Prop :=
 e = .returned (.tuple #[]) ∧ ∃ v' a' c',WrStep B Wb p m v a c out W v' a' c' out' names' w'
theorem or128 (x : Nat) (hx : x < 256) : bits .or .u8 (x : Int) 128 = ((x % 128 + 128 : Nat) : Int) := by
 have key : ∀ y : Fin 256,bits .or .u8 ((y.val : Nat) : Int) 128 = ((y.val % 128 + 128 : Nat) : Int) := by decide +kernel
 exact key ⟨x,hx⟩
theorem wrap_u8 (n : Nat) : IntKind.u8.wrap (n : Int) = ((n % 256 : Nat) : Int) := by simp [IntKind.wrap,IntKind.bits,IntKind.signed]
theorem ofNat_toNat (n : Nat) : ((UInt8.ofNat n).toNat : Int) = ((n % 256 : Nat) : Int) := by simp
end Go.Proofs.Ytgadkiljnebicaa
