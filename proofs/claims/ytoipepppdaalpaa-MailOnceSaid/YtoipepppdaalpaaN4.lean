/- A message taken out of the queue: the walk. -/
import Derived.Test.YtoipepppdaalpaaN3
import Derived.Deep.RegionLaw
namespace Go.Proofs.Ytoipepppdaalpaa
open Go.RowKit
attribute [local go_sem] run_store_complex

theorem no_block {B : Nat} : ∀ i, (Value.slice none 0 0).ownBlock = some i → B ≤ i := fun i e => by cases e
theorem zero_owns {w : World} {base k c size : Nat} {e : TypeId} {a : Option Addr} {xs : List Value} (h : w.ownsRow base e size (.slice a (0 + k) c) (0 + k) ([] ++ xs)) : w.ownsRow base e size (.slice a k c) k xs := by
  rwa [Nat.zero_add, List.nil_append] at h
theorem app_below {B : Nat} {a b c : World} {row : Option Nat} (h : Below B a b) (hB : B ≤ b.heap.size) (hr : ∀ i, row = some i → B ≤ i) (hg : b.grownBy c row) : Below B a c := h.trans ((Turn.of_grownBy hg).below hB hr)
/-- a term's nine cells stored at a block's head -/
abbrev nine0 (w : World) (g : Nat) (n : Int) : World :=
  ((((((((w.setCell ⟨g, 0, none⟩ (.int .i64 1)).setCell ⟨g, 1, none⟩ (.int .i64 n)).setCell ⟨g, 2, none⟩ (.complex .f64 0 0)).setCell ⟨g, 3, none⟩ (.string ⟨#[]⟩)).setCell ⟨g, 4, none⟩ (.int .i64 0)).setCell ⟨g, 5, none⟩ (.int .u32 0)).setCell ⟨g, 6, none⟩ (.int .u64 0)).setCell ⟨g, 7, none⟩ (.slice none 0 0)).setCell ⟨g, 8, none⟩ (.slice none 0 0)
theorem nine0_turn (w : World) (g : Nat) (n : Int) : Turn (fun i => i = g) w (nine0 w g n) :=
  ((((((((Turn.setCell w g 0 _).trans (Turn.setCell _ g _ _)).trans (Turn.setCell _ g _ _)).trans (Turn.setCell _ g _ _)).trans (Turn.setCell _ g _ _)).trans (Turn.setCell _ g _ _)).trans (Turn.setCell _ g _ _)).trans (Turn.setCell _ g _ _)).trans (Turn.setCell _ g _ _)
theorem take_box {B p R over : Nat} {wc : World} {v' : Value} {ms : List Int} {n : Int} (hx : BoxAt B wc p v' ms over) (hR : ¬ R = p) (hv : ∀ b, v'.ownBlock = some b → ¬ b = R) : BoxAt B (nine0 (wc.setCell ⟨p, 1, none⟩ (.int .i64 0)) R n) p v' ms 0 := by
  have h1 := hx.setOver 0
  refine h1.keep fun i hi => (nine0_turn _ R n).block i ?_ ?_
  · rcases hi with rfl | hi
    · exact h1.lt
    · exact (h1.owns.lt i hi).2
  · rcases hi with rfl | hi
    · exact fun e => hR e.symm
    · exact hv i hi
theorem take_turn {w w2 wc : World} {p : Nat} {n : Int} (hb : Below w.heap.size w w2) (ht : Turn (fun i => i = p) w2 wc) : Turn (fun i => i = p) w (nine0 (wc.setCell ⟨p, 1, none⟩ (.int .i64 0)) w.heap.size n) :=
  (((Turn.of_below hb).trans ht).trans (Turn.setCell wc p 1 _)).andThen (nine0_turn _ w.heap.size n) (fun i e => .inr (Nat.le_of_eq e.symm))
theorem nine0_block {w : World} {g : Nat} {t : TypeId} (n : Int) (h : w.heap[g]? = some (.cells (tmC 0 0) t (0, 0))) : (nine0 w g n).heap[g]? = some (.cells (tmC 1 n) t (0, 0)) := by
  have s0 := heap_setCell_same _ g 0 _ _ (.int .i64 1) h
  simp only [List.setIfInBounds_toArray, List.set_cons_zero, List.set_cons_succ] at s0
  have s1 := heap_setCell_same _ g 1 _ _ (.int .i64 n) s0
  simp only [List.setIfInBounds_toArray, List.set_cons_zero, List.set_cons_succ] at s1
  have s2 := heap_setCell_same _ g 2 _ _ (.complex .f64 0 0) s1
  simp only [List.setIfInBounds_toArray, List.set_cons_zero, List.set_cons_succ] at s2
  have s3 := heap_setCell_same _ g 3 _ _ (.string ⟨#[]⟩) s2
  simp only [List.setIfInBounds_toArray, List.set_cons_zero, List.set_cons_succ] at s3
  have s4 := heap_setCell_same _ g 4 _ _ (.int .i64 0) s3
  simp only [List.setIfInBounds_toArray, List.set_cons_zero, List.set_cons_succ] at s4
  have s5 := heap_setCell_same _ g 5 _ _ (.int .u32 0) s4
  simp only [List.setIfInBounds_toArray, List.set_cons_zero, List.set_cons_succ] at s5
  have s6 := heap_setCell_same _ g 6 _ _ (.int .u64 0) s5
  simp only [List.setIfInBounds_toArray, List.set_cons_zero, List.set_cons_succ] at s6
  have s7 := heap_setCell_same _ g 7 _ _ (.slice none 0 0) s6
  simp only [List.setIfInBounds_toArray, List.set_cons_zero, List.set_cons_succ] at s7
  have s8 := heap_setCell_same _ g 8 _ _ (.slice none 0 0) s7
  simp only [List.setIfInBounds_toArray, List.set_cons_zero, List.set_cons_succ] at s8
  exact s8
/-- behind the row's new text -/
def TakeMid (B : Nat) (w2 : World) (p : Nat) (ms : List Int) (over : Nat) (wx : World) : Prop :=
  ∃ v', BoxAt B wx p v' (ms.take over ++ ms.drop (over + 1)) over ∧ Turn (fun i => i = p) w2 wx ∧ ∀ b, v'.ownBlock = some b → w2.heap.size ≤ b
theorem take_mid {B : Nat} {w2 w9 : World} {p : Nat} {v : Value} {ms : List Int} {over : Nat} {a9 : Option Addr} {c9 : Nat} (hx : BoxAt B w2 p v ms over) (hb : Below w2.heap.size w2 w9)
    (ho : w9.ownsRow w2.heap.size 35 9 (.slice a9 (over + (ms.length - (over + 1))) c9) (over + (ms.length - (over + 1))) (flat (ms.take over) ++ flat (ms.drop (over + 1)))) (hov : over < ms.length) (hB : B ≤ w2.heap.size) :
    TakeMid B w2 p ms over (w9.setCell ⟨p, 0, none⟩ (.slice a9 (over + (ms.length - (over + 1))) c9)) := by
  have hlen : (ms.take over ++ ms.drop (over + 1)).length = over + (ms.length - (over + 1)) := by simp; omega
  have hc : w9.heap[p]? = some (.cells #[v, .int .i64 over] 49 (0, 0)) := (hb.block p hx.lt).trans hx.cells
  have hpl := hx.lt
  have hne : (Value.slice a9 (over + (ms.length - (over + 1))) c9).ownBlock ≠ some p := fun e => by have := (ho.lt p e).1; omega
  refine ⟨.slice a9 (over + (ms.length - (over + 1))) c9, ⟨hx.base, ?_, ?_, hne, ⟨_, _, by rw [hlen]⟩⟩, (Turn.of_below hb).trans (Turn.setCell w9 p 0 _), fun b e => (ho.lt b e).1⟩
  · rw [heap_setCell_same _ p 0 _ _ _ hc]
    rfl
  · rw [hlen, flat_app]
    have := ownsRow_setCell_other (a := ⟨p, 0, none⟩) ho hne (.slice a9 (over + (ms.length - (over + 1))) c9)
    obtain ⟨h1, h2⟩ := this
    exact ⟨h1, h2.imp id fun ⟨g, cap, cur, hv, hg, r⟩ => ⟨g, cap, cur, hv, Nat.le_trans hB hg, r⟩⟩
set_option maxRecDepth 100000 in
set_option maxHeartbeats 2000000 in
theorem take_any (B p : Nat) (v : Value) (ms : List Int) (over : Nat) (w : World) (hB : B ≤ w.heap.size) (h : BoxAt B w p v ms over) (ho : over < ms.length) (hl : ms.length ≤ 256) :
    Calls Try.prog 18 #[.pointer (some ⟨p, 0, none⟩)] w fun e w' => e = .returned (tm 1 ms[over]) ∧ ∃ v', BoxAt B w' p v' (ms.take over ++ ms.drop (over + 1)) 0 ∧ Turn (fun i => i = p) w w' ∧ (∀ b, v'.ownBlock = some b → w.heap.size ≤ b) := by
  obtain ⟨g, c, rfl, hgl⟩ : ∃ g c, v = .slice (some ⟨g, 0, none⟩) ms.length c ∧ g < w.heap.size := by
    rcases h.owns.2 with ⟨_, h0⟩ | ⟨g, cap, cur, hv, _, hh, _⟩
    · omega
    · exact ⟨g, cap, hv, lt_of_block hh⟩
  have hgp : ¬ g = p := fun e => h.apart (by rw [e]; rfl)
  have hpl := h.lt
  have hcap : ms.length ≤ c := by
    rcases h.owns.2 with ⟨_, h0⟩ | ⟨g, cap, cur, hv, _, hh, hn, _⟩
    · omega
    · cases hv; exact hn
  have hB1 : Below w.heap.size w (w.alloc (.cells (tmC 0 0) 35)) := (Below.refl _ w).alloc (Nat.le_refl _) _
  have HX := Lib.hid (h.below hB1)
  have hk := TmIn.block (owns_term h.owns ho) (hB1.block g hgl)
  have HR := Lib.hid (heap_new w (.cells (tmC 0 0) 35))
  have hsz : (w.alloc (.cells (tmC 0 0) 35)).heap.size = w.heap.size + 1 := by simp
  have HB1 := Lib.hid hB1
  clear hB1 h
  generalize ms[over] = n at *
  go_enter Try.func18, Try.ntmps18
  go_wp2_with fail
  generalize w.alloc (.cells (tmC 0 0) 35) = w0 at *
  have HZ := Lib.hid hsz
  have hgl0 : g < w0.heap.size := by omega
  have hpl0 : p < w0.heap.size := by omega
  clear hsz
  have hp0 := HX.out.c0
  have hp1 := HX.out.c1
  obtain ⟨k0, k1, k2, k3, k4, k5, k6, k7, k8⟩ := hk
  have hi0 : (0 : Int) ≤ (over : Int) := by omega
  have hi1 : (over : Int) < (ms.length : Int) := by omega
  have m1 := World.new_ne w0 ⟨p, 0, none⟩ hp0
  have m2 := World.new_ne w0 ⟨g, over * 9, none⟩ k0
  go_region_held3 (fun w' => w'.cell? ⟨p, 0, none⟩ = some (.slice (some ⟨g, 0, none⟩) ms.length c) ∧ w'.cell? ⟨p, 1, none⟩ = some (.int .i64 over) ∧ w'.cell? ⟨g, over * 9, none⟩ = some (.int .i64 1) ∧ w'.cell? ⟨g, over * 9 + 1, none⟩ = some (.int .i64 n) ∧ w'.cell? ⟨g, over * 9 + 2, none⟩ = some (.complex .f64 0 0) ∧ w'.cell? ⟨g, over * 9 + 3, none⟩ = some (.string ⟨#[]⟩) ∧ w'.cell? ⟨g, over * 9 + 4, none⟩ = some (.int .i64 0) ∧ w'.cell? ⟨g, over * 9 + 5, none⟩ = some (.int .u32 0) ∧ w'.cell? ⟨g, over * 9 + 6, none⟩ = some (.int .u64 0) ∧ w'.cell? ⟨g, over * 9 + 7, none⟩ = some (.slice none 0 0) ∧ w'.cell? ⟨g, over * 9 + 8, none⟩ = some (.slice none 0 0))
    (go_keep) (fail)
  go_upto_region 2 with fail
  have HB2 : Below w0.heap.size w0 (w0.alloc (.cells (tmC 1 n) 35)).drew := ((Below.refl _ w0).alloc (Nat.le_refl _) _).drew
  have HX2 := Lib.hid (HX.out.below HB2)
  have HK2 : Hid ((w0.alloc (.cells (tmC 1 n) 35)).drew.heap[w0.heap.size]? = some (.cells (tmC 1 n) 35)) := heap_new w0 _
  have HR2 := Lib.hid ((HB2.block w.heap.size (by rw [HZ.out]; omega)).trans HR.out)
  have HW2 := Lib.hid (HB1.out.trans (HB2.mono (by rw [HZ.out]; omega)))
  have hs2 : w0.heap.size < (w0.alloc (.cells (tmC 1 n) 35)).drew.heap.size := by show w0.heap.size < (w0.alloc (.cells (tmC 1 n) 35)).heap.size; simp
  have hwz := HZ.out
  clear k0 k1 k2 k3 k4 k5 k6 k7 k8 m1 m2 hp0 hp1 HX HB2 HR HB1
  generalize (w0.alloc (.cells (tmC 1 n) 35)).drew = w2 at *
  generalize hxx : w0.heap.size = xx at *
  have HXX := Lib.hid hxx
  clear hxx
  have hp0 := HX2.out.c0
  have hp1 := HX2.out.c1
  have hpf := HX2.out.fz 0
  obtain ⟨ad, had, hfrom0⟩ := slice_from9 g ms.length c (over + 1) (by omega) hcap
  have hfrom : ∀ w : World, (Instr.slice 33 (.slice (some ⟨g, 0, none⟩) ms.length c) (some (.int .i64 ((over : Int) + 1))) none none).run Try.prog w = .ok (.slice (some ad) (ms.length - (over + 1)) (c - (over + 1))) w := hfrom0
  have hto := fun w => slice_to9 w g ms.length c over (by omega)
  have HSa : Hid (∀ w', Below w2.heap.size w2 w' → Src Try.prog 9 33 (.slice (some ⟨g, 0, none⟩) over c) over (flat (ms.take over)) w') := fun w' hb => src_to HX2.out.owns (by omega) (hb.block g (by omega))
  have HSb : Hid (∀ w', Below w2.heap.size w2 w' → ∀ c', Src Try.prog 9 33 (.slice (some ad) (ms.length - (over + 1)) c') (ms.length - (over + 1)) (flat (ms.drop (over + 1))) w') := fun w' hb c' => src_from HX2.out.owns (by omega) had (hb.block g (by omega))
  have hpl2 : p < w2.heap.size := by omega
  have HPB : Hid (∀ w', Below w2.heap.size w2 w' → w'.cell? ⟨p, 0, none⟩ = some (.slice (some ⟨g, 0, none⟩) ms.length c) ∧ w'.cell? ⟨p, 1, none⟩ = some (.int .i64 over) ∧ w'.frozen? ⟨p, 0, none⟩ = false) := fun w' hb => ⟨(hb.cell (p := ⟨p, 0, none⟩) hpl2).trans hp0, (hb.cell (p := ⟨p, 1, none⟩) hpl2).trans hp1, (hb.frozen (p := ⟨p, 0, none⟩) hpl2).trans hpf⟩
  have HOB : Hid (∀ (wz : World) (vv : Value), Below w2.heap.size w2 wz → (wz.setCell ⟨p, 0, none⟩ vv).cell? ⟨p, 1, none⟩ = some (.int .i64 over)) := fun wz vv hb => by
    rw [cell_set_off wz p 0 1 vv (by decide)]
    exact (hb.cell (p := ⟨p, 1, none⟩) hpl2).trans hp1
  obtain ⟨i0, hi, hz0, hz1, hz2⟩ := info_parts infoT
  have H1 := Lib.hid hi
  have H2 := Lib.hid hz0
  have H3 := Lib.hid hz1
  have H4 := Lib.hid hz2
  have hmm : maxLen = maxLen := rfl
  have X1 := Lib.hid (show 0 + over ≤ maxLen by unfold maxLen; omega)
  have X2 := Lib.hid (show (0 + over) * 120 ≤ 140737488355328 by omega)
  have X3 := Lib.hid (show over + (ms.length - (over + 1)) ≤ maxLen by unfold maxLen; omega)
  have X4 := Lib.hid (show (over + (ms.length - (over + 1))) * 120 ≤ 140737488355328 by omega)
  clear hi hz0 hz1 hz2 hfrom0 had hmm
  have ki7 : IntKind.i64.wrap ((over : Int) + 1) = (over : Int) + 1 := IntWalk.i64_in _ (by omega)
  have tokA : True := trivial
  have HOV := Lib.hid ho
  have HBw := Lib.hid (show B ≤ w2.heap.size by omega)
  clear hwz
  go_cut [3] from 14 to 37 (fun t3 wx => t3 = .pointer (some ⟨xx, 0, none⟩) ∧ TakeMid B w2 p ms over wx)
  case first =>
    go_region_law
        (first
          | (have _t := tokA; refine step_app (by rfl) (.const (.slice none 0 0)) (.tmp 23) 33 33 (by rfl) w2.heap.size 35 i0 (tm 0 0) 9 120 Try.underlying33 H1.out H2.out H3.out H4.out rfl (by decide) (.slice none 0 0) 0 [] (by rfl) (World.ownsRow_nil _ _ _ _) _ over (flat (ms.take over)) (by rfl) (HSa.out _ (Below.refl _ w2).drew) X1.out X2.out (Nat.le_refl _) ?_; intro a8 c8 w8 ho8 hg8 hl8; have HB8 := Lib.hid (app_below (Below.refl _ w2).drew (Nat.le_refl _) no_block hg8); have HO8 := Lib.hid (zero_owns ho8); obtain ⟨z0, z1, z2⟩ := HPB.out _ HB8.out; clear ho8 hg8 hl8 tokA _t)
          | (refine step_app (by rfl) (.tmp 24) (.tmp 34) 33 33 (by rfl) w2.heap.size 35 i0 (tm 0 0) 9 120 Try.underlying33 H1.out H2.out H3.out H4.out rfl (by decide) _ _ _ (by rfl) HO8.out _ (ms.length - (over + 1)) (flat (ms.drop (over + 1))) (by rfl) (HSb.out _ HB8.out _) X3.out X4.out HB8.out.size ?_; intro a9 c9 w9 ho9 hg9 hl9; have HB9 := Lib.hid (app_below HB8.out HB8.out.size (fun i e => (HO8.out.lt i e).1) hg9); have HO9 := Lib.hid ho9; obtain ⟨y0, y1, y2⟩ := HPB.out _ HB9.out; clear ho9 hg9 hl9))
    all_goals
      go_wp2_with fail
      go_meet
      exact ⟨rfl, take_mid HX2.out HB9.out HO9.out HOV.out HBw.out⟩
  case rest =>
    obtain ⟨rfl, v', hx, ht, hfr⟩ := hcut
    have hpx : ¬ xx = p := by omega
    have hrp : ¬ w.heap.size = p := by omega
    have hrx : ¬ w.heap.size = xx := by have := HZ.out; have := HXX.out; omega
    have hkx := TmAt.of_block ((ht.block xx hs2 hpx).trans HK2.out)
    have hRc := (ht.block w.heap.size (by have := HZ.out; have := HXX.out; omega) hrp).trans HR2.out
    have hkr := TmAt.of_block hRc
    have HRc := Lib.hid hRc
    have hw2 : w.heap.size < w2.heap.size := by have := HZ.out; have := HXX.out; omega
    have hfz : ∀ o, wc.frozen? ⟨w.heap.size, o, none⟩ = false := fun o => by simp [World.frozen?, hRc]
    have h1 := hx.c1
    have h1f := hx.fz 1
    have HX9 := Lib.hid hx
    have HT9 := Lib.hid ht
    have HFR := Lib.hid hfr
    have hwx := Lib.hid (Nat.le_trans HW2.out.size (Nat.le_refl _))
    have hlc : w.heap.size < wc.heap.size := by have := ht.size; have := HZ.out; have := HXX.out; omega
    obtain ⟨k0, k1, k2, k3, k4, k5, k6, k7, k8⟩ := hkx
    obtain ⟨r0, r1, r2, r3, r4, r5, r6, r7, r8⟩ := hkr
    clear hx ht hfr hRc hto hfrom ki7 HSa HSb HPB HOB
    go_wp2_with fail
    have R1 := take_box (R := w.heap.size) (n := n) HX9.out hrp (fun b e => by have := HFR.out b e; omega)
    have R2 := take_turn (n := n) HW2.out HT9.out
    have R3 : ∀ b, v'.ownBlock = some b → w.heap.size ≤ b := fun b e => by have := HFR.out b e; omega
    have R4 := TmAt.of_block (nine0_block n ((Below.heap_setCell wc ⟨p, 1, none⟩ (.int .i64 0) w.heap.size hrp).trans HRc.out))
    clear r0 r1 r2 r3 r4 r5 r6 r7 r8 k0 k1 k2 k3 k4 k5 k6 k7 k8
    dsimp only [nine0] at R1 R2 R4
    generalize ((((((((((wc.setCell ⟨p, 1, none⟩ (.int .i64 0)).setCell ⟨w.heap.size, 0, none⟩ (.int .i64 1)).setCell ⟨w.heap.size, 1, none⟩ (.int .i64 n)).setCell ⟨w.heap.size, 2, none⟩ (.complex .f64 0 0)).setCell ⟨w.heap.size, 3, none⟩ (.string ⟨#[]⟩)).setCell ⟨w.heap.size, 4, none⟩ (.int .i64 0)).setCell ⟨w.heap.size, 5, none⟩ (.int .u32 0)).setCell ⟨w.heap.size, 6, none⟩ (.int .u64 0)).setCell ⟨w.heap.size, 7, none⟩ (.slice none 0 0)).setCell ⟨w.heap.size, 8, none⟩ (.slice none 0 0)) = wf at *
    obtain ⟨r0, r1, r2, r3, r4, r5, r6, r7, r8⟩ := R4
    exact bodyPost_ret (v := tm 1 n) (by simp [results, Try.results18, go_sem, r0, r1, r2, r3, r4, r5, r6, r7, r8]) rfl ⟨rfl, v', R1, R2, R3⟩
end Go.Proofs.Ytoipepppdaalpaa
