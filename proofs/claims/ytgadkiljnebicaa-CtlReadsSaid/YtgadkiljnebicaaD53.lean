/- Several texts in one. -/
import Derived.Test.YtgadkiljnebicaaD52
import Derived.Test.YtgadkiljnebicaaD50
import Derived.Test.YtgadkiljnebicaaD49
set_option linter.unusedVariables false
set_option linter.unusedSimpArgs false
namespace Go.Proofs.Ytgadkiljnebicaa
open Go.Lib (hid)
open Go.RowKit
set_option maxRecDepth 100000
attribute [local go_sem] run_store_complex
theorem ctldec_any (bv : Value) (bs : List UInt8) (w : World) (h : Sl w bv (bs.map cellB)) : Calls Try.prog 5 #[bv] w (CtlPost w (ctlP bs)) := by
 have h2 := h
 obtain ⟨a,c,rfl,hm,_⟩ := h2
 rw [List.length_map] at h ⊢
 by_cases hl : 1000 < bs.length
 ·exact ctl_long a c bs w hl
 ·cases hd : decodeP bs with
  | error x => exact ctl_err a c bs w h hl x hd
  | ok t => exact ctl_ok a c bs w h hl t hd
theorem rctldec_any (bv : Value) (bs : List UInt8) (w : World) (h : Sl w bv (bs.map cellB)) : Calls Try.prog 6 #[bv] w (CtlPost w (ctlP bs)) := by
 have h2 := h
 obtain ⟨a,c,rfl,hm,_⟩ := h2
 rw [List.length_map] at h ⊢
 by_cases hl : 1000 < bs.length
 ·exact rctl_long a c bs w hl
 ·cases hd : decodeP bs with
  | error x => exact rctl_err a c bs w h hl x hd
  | ok t => exact rctl_ok a c bs w h hl t hd
set_option linter.constructorNameAsVariable false
set_option maxHeartbeats 4000000 in
theorem alive_any (w : World) : Calls Try.prog 4 #[] w (RB w (.bool true)) := by
 go_enter Try.func4,Try.ntmps4
 go_wp2_with fail
 have HB0 := hid (((Below.refl w.heap.size w).alloc (Nat.le_refl _) (.cells #[.int .i64 1,.int .u32 1,.int .u64 1] 27)).alloc (by simp) (.cells #[.int .i64 2,.int .u32 1,.int .u64 1] 27))
 have HP0 := hid (show ((w.alloc (.cells #[.int .i64 1,.int .u32 1,.int .u64 1] 27)).alloc (.cells #[.int .i64 2,.int .u32 1,.int .u64 1] 27)).heap[w.heap.size]? = some (.cells #[.int .i64 1,.int .u32 1,.int .u64 1] 27 (0,0)) from (Below.heap_alloc _ _ _ (by simp)).trans (heap_new w _))
 have HQ0 := hid (show ((w.alloc (.cells #[.int .i64 1,.int .u32 1,.int .u64 1] 27)).alloc (.cells #[.int .i64 2,.int .u32 1,.int .u64 1] 27)).heap[w.heap.size + 1]? = some (.cells #[.int .i64 2,.int .u32 1,.int .u64 1] 27 (0,0)) from heap_new_at (by simp))
 generalize (w.alloc (.cells #[.int .i64 1,.int .u32 1,.int .u64 1] 27)).alloc (.cells #[.int .i64 2,.int .u32 1,.int .u64 1] 27) = w0 at *
 refine (enc_yes _).mono ?_
 rintro e w1 ⟨a1,c1,rfl,ho,hb⟩
 have HB1 := hid (HB0.out.trans (hb.mono HB0.out.size))
 have HP1 := hid ((hb.block _ (blk_lt HP0.out)).trans HP0.out)
 have HQ1 := hid ((hb.block _ (blk_lt HQ0.out)).trans HQ0.out)
 have HS1 := hid (Sl.of_owns ho (by decide))
 clear ho hb
 go_wp2_with fail
 refine (ctldec_any _ bsLk w1 HS1.out).mono ?_
 intro e w2 he
 rw [ctl_lk] at he
 obtain ⟨sc,k,rfl,hk,⟨b1,p1,d1,b2,p2,d2,hsc,_⟩,hb⟩ := he
 have hk2 : k = 2 := by
  have h3 : some (2 : Int) = some k := hk
  injection h3 with h3
  exact h3.symm
 subst hk2
 have hsc2 : sc = sgC 2 ⟨1,1,1⟩ ⟨2,1,1⟩ I3.zero {} (.slice b1 p1 d1) (.slice b2 p2 d2) 0 := hsc
 subst hsc2
 clear hsc hk
 have HZ := hid (heap_new w2 (.cells sgZ 33))
 have hbz := (Below.refl w2.heap.size w2).alloc (Nat.le_refl _) (.cells sgZ 33)
 have HB2 := hid (HB1.out.trans (hb.mono HB1.out.size))
 have HP2 := hid ((hb.block _ (blk_lt HP1.out)).trans HP1.out)
 have HQ2 := hid ((hb.block _ (blk_lt HQ1.out)).trans HQ1.out)
 have HS2 := hid (HS1.out.below hb)
 go_upto_region 5 with (refine wpList_store_row rfl 33 (.tmp 5) (.tmp 19) rfl w2.heap.size (sgC 2 ⟨1,1,1⟩ ⟨2,1,1⟩ I3.zero {} (.slice b1 p1 d1) (.slice b2 p2 d2) 0) rfl rfl 33 sgZ HZ.out infoSg rfl (by simp [Array.all,Value.oneCell']) ?_)
 have hE := sg_end (B := w2.heap.size) (w := w2) (sgC 2 ⟨1,1,1⟩ ⟨2,1,1⟩ I3.zero {} (.slice b1 p1 d1) (.slice b2 p2 d2) 0) hbz (Nat.le_refl _) HZ.out
 have HX3 := hid hE.1
 have HB3 := hid (HB2.out.trans (hE.2.mono HB2.out.size))
 have HS3 := hid (HS2.out.below hE.2)
 have HP3 := hid ((hE.2.block _ (blk_lt HP2.out)).trans HP2.out)
 have HQ3 := hid ((hE.2.block _ (blk_lt HQ2.out)).trans HQ2.out)
 clear hb hbz hE HZ HS1 HS2 HB1 HB2
 generalize w2.heap.size = S at *
 generalize (w2.alloc (.cells sgZ 33)).setRow S (sgC 2 ⟨1,1,1⟩ ⟨2,1,1⟩ I3.zero {} (.slice b1 p1 d1) (.slice b2 p2 d2) 0) = w3 at *
 obtain ⟨k0,k1,k2,k3,k4,k5,k6,k7,k8,k9,k10,k11,k12,k13,k14,k15,k16,k17,k18,k19⟩ := sg_cells HX3.out
 have hcv1 := conv_any (P := Try.prog) w3 Try.underlying22 Try.underlying5 Try.underlying9 HS3.out
 have p0 : w3.cell? ⟨w.heap.size,0,none⟩ = some (.int .i64 1) := by rw [cell_of_row _ _ _ _ _ _ HP3.out]; rfl
 have p1' : w3.cell? ⟨w.heap.size,1,none⟩ = some (.int .u32 1) := by rw [cell_of_row _ _ _ _ _ _ HP3.out]; rfl
 have p2' : w3.cell? ⟨w.heap.size,2,none⟩ = some (.int .u64 1) := by rw [cell_of_row _ _ _ _ _ _ HP3.out]; rfl
 have q0 : w3.cell? ⟨w.heap.size + 1,0,none⟩ = some (.int .i64 2) := by rw [cell_of_row _ _ _ _ _ _ HQ3.out]; rfl
 have q1 : w3.cell? ⟨w.heap.size + 1,1,none⟩ = some (.int .u32 1) := by rw [cell_of_row _ _ _ _ _ _ HQ3.out]; rfl
 have q2 : w3.cell? ⟨w.heap.size + 1,2,none⟩ = some (.int .u64 1) := by rw [cell_of_row _ _ _ _ _ _ HQ3.out]; rfl
 go_wp2_with fail
 refine (check_no _).mono ?_
 rintro e w4 ⟨rfl,hb⟩
 have HB4 := hid (HB3.out.trans (hb.mono HB3.out.size))
 clear hb
 go_wp2_with fail
 go_ret
 exact ⟨rfl,HB4.out⟩
structure TurnAt (B : Nat) (a : Option Addr) (n c : Nat) (w5 wr : World) (ys : List Int) : Prop where
 row : wr.ownsRow B 5 1 (.slice a n c) n (ys.map (Value.int .u8))
 turn : Turn (fun i => (Value.slice a n c).ownBlock = some i) w5 wr
theorem TurnAt.next {B g n c j : Nat} {w5 wr : World} {ys : List Int} (h : TurnAt B (some ⟨g,0,none⟩) n c w5 wr ys) (y : Int) : TurnAt B (some ⟨g,0,none⟩) n c w5 (wr.setCell ⟨g,j,none⟩ (.int .u8 y)) (ys.set j y) := by
 have h1 := (h.row.stored j (.int .u8 y)).1
 refine ⟨by rw [List.map_set]; exact h1,h.turn.trans ((Turn.setCell wr g j (.int .u8 y)).mono fun i _ e => by rw [e]; rfl)⟩
def sgOut : Except Int Tm → Sq × Int
 | .ok t => (match t.l with | a :: rest => sqTo a.hd.n rest rest.length | [] => { k := 0 },0)
 | .error x => ({ k := 0 },x)
theorem ctl_gen {W w' : World} {r : Except Int Tm} {e : Ending} (h : CtlPost W r e w') : ∃ sc,e = .returned (.tuple #[.agg sc,.int .i64 (sgOut r).2]) ∧ SgRep w' (fun b => W.heap.size ≤ b ∧ b < w'.heap.size) (sgOut r).1 sc ∧ Below W.heap.size W w' := by
 cases r with
 | ok t =>
  obtain ⟨sc,k,rfl,hk,hr,hb⟩ := h
  obtain ⟨hd,l⟩ := t
  cases l with
  | nil => simp [Tm.l] at hk
  | cons a rest =>
   have e1 : a.hd.n = k := by simpa [Tm.l] using hk
   subst e1
   obtain ⟨a1,m1,c1,a2,m2,c2,e2,hrep⟩ := hr
   exact ⟨sc,rfl,⟨a1,m1,c1,a2,m2,c2,e2,Rep.mono (fun b e hb => ⟨e,hb⟩) _ _ hrep⟩,hb⟩
 | error x =>
  obtain ⟨rfl,hb⟩ := h
  exact ⟨sgZ,rfl,⟨none,0,0,none,0,0,rfl,Rep.leaf (h := {}) rfl⟩,hb⟩
theorem sgOut_x (bs : List UInt8) : (sgOut (ctlP bs)).1.x = .mk {} [] ∨ (GoodT 24 (sgOut (ctlP bs)).1.x ∧ sizeT (sgOut (ctlP bs)).1.x ≤ 4096) := by
 cases hc : ctlP bs with
 | error x => exact .inl rfl
 | ok t =>
  obtain ⟨hd,l⟩ := t
  cases l with
  | nil => exact .inl rfl
  | cons a rest =>
   unfold ctlP at hc
   split at hc
   ·cases hc
   ·cases hdp : decodeP bs with
    | error x => rw [hdp] at hc; cases hc
    | ok t2 =>
     rw [hdp] at hc
     simp only at hc
     split at hc
     ·rename_i hs
      cases hc
      obtain ⟨hg,hsz⟩ := dec_read hdp
      have hG : ∀ p ∈ rest,GoodT 24 p ∧ sizeT p ≤ 4096 := fun p hp => part_good hg hsz (List.mem_cons_of_mem a hp)
      unfold sigB at hs
      simp only [Tm.l,Bool.and_eq_true,decide_eq_true_eq] at hs
      obtain ⟨⟨_,_,h1,h2⟩,hf⟩ := hs
      have hlen := (fits_iff.1 hf).1
      show (sqTo a.hd.n rest rest.length).x = .mk {} [] ∨ (GoodT 24 (sqTo a.hd.n rest rest.length).x ∧ sizeT (sqTo a.hd.n rest rest.length).x ≤ 4096)
      rw [← hlen]
      have hp := sq_pre2 h1 h2 (Nat.le_of_eq hlen) hG
      cases hX : hasX a.hd.n
      ·exact .inl (hp.2.2.2.2.2.2.2.2.1 hX)
      ·exact .inr (hp.2.2.2.2.2.2.2.2.2 hX)
     ·cases hc
theorem SgRep.mono {w : World} {F F' : Nat → Prop} {s : Sq} {sc : Array Value} (h : SgRep w F s sc) (hF : ∀ b,F b → b < w.heap.size → F' b) : SgRep w F' s sc := by
 obtain ⟨a1,m1,c1,a2,m2,c2,e,hr⟩ := h
 exact ⟨a1,m1,c1,a2,m2,c2,e,Rep.mono hF _ _ hr⟩
theorem SgRep.size {w : World} {F : Nat → Prop} {s : Sq} {sc : Array Value} (h : SgRep w F s sc) : sc.size = 20 ∧ sc.all (·.oneCell') = true := by
 obtain ⟨a1,m1,c1,a2,m2,c2,rfl,_⟩ := h
 exact ⟨rfl,by simp [Array.all,Value.oneCell']⟩
theorem wpList_hide {P : Program} {ops : Array Oper} {Q : Exit → Act → World → Prop} {l : List Oper} {a : Act} {w : World} (h : ∀ b,b = a → wpList P ops Q l b w) : wpList P ops Q l a w := h a rfl
theorem wpList_val {P : Program} {ops : Array Oper} {Q : Exit → Act → World → Prop} {rest : List Oper} {o : Oper} {a : Act} {w : World} (hw : Region.wanted o (yielded ops a.tmps) = true) (v : Value) (hrun : (execOp a.eval o).run P w = .ok (.value v) w) (h : wpList P ops Q rest (a.put o.dst v) w) : wpList P ops Q (o :: rest) a w :=
 wpList_step fun K hK => by
  rw [if_pos hw]
  unfold Oper.wp
  rw [hrun,Oper.upon_value]
  exact hK _ _ h
theorem wpList_load_g {P : Program} {ops : Array Oper} {Q : Exit → Act → World → Prop} {rest : List Oper} {o : Oper} {a : Act} {w : World} (hw : Region.wanted o (yielded ops a.tmps) = true) (ty : TypeId) (x : Operand) (ho : o.op = .load ty x)
  (g : Nat) (hx : a.eval x = .pointer (some ⟨g,0,none⟩)) (t : TypeId) (cs : Array Value) (fr : Nat × Nat) (d : TypeDesc) (hg : w.heap[g]? = some (.cells cs t fr))
  (hu : P.underlying ty = some d) (hd : (match d with | .struct _ | .array _ _ => true | _ => false) = true) (hi : (P.info? ty).map (·.size) = some cs.size)
  (h : wpList P ops Q rest (a.put o.dst (.agg cs)) w) : wpList P ops Q (o :: rest) a w :=
 wpList_step fun K hK => by
  rw [if_pos hw]
  exact wp_load_row ty x ho g hx t cs fr d hg hu hd hi (hK _ _ h)
theorem wpList_call2 {P : Program} {ops : Array Oper} {Q : Exit → Act → World → Prop} {rest : List Oper} {o : Oper} {a : Act} {w : World} (hw : Region.wanted o (yielded ops a.tmps) = true) (f : FuncId) (x y : Operand) (t u : TypeId) (ho : o.op = .call { callee := .value (.func f),args := #[x,y],argTypes := #[t,u] }) (he : ∀ (bs : Array Value) (w : World),(callFunc f bs).run P w = .ok (.enter f bs) w)
  (v v' : Value) (hx : a.eval x = v) (hy : a.eval y = v') {R : Ending → World → Prop} (hc : Calls P f #[v,v'] w R) (h : ∀ e w',R e w' → ∃ v,e = .returned v ∧ wpList P ops Q rest (a.put o.dst v) w') : wpList P ops Q (o :: rest) a w :=
 wpList_step fun K hK => op_call2 (E := K (a.put o.dst undef) w) hw f x y t u ho he v v' hx hy hc fun e w' hh => by
  obtain ⟨v,h1,h2⟩ := h e w' hh
  exact ⟨v,h1,hK _ _ h2⟩
theorem run_eq_same {P : Program} {a : Act} {o : Oper} {t u : TypeId} {x y : Operand} {k : IntKind} {n : Int} (ho : o.op = .binOp .eql t x y u) (hx : a.eval x = .int k n) (hy : a.eval y = .int k n) (w : World) : (execOp a.eval o).run P w = .ok (.value (.bool true)) w := by
 unfold execOp
 rw [ho]
 simp only [hx,hy]
 simp [go_sem,eqGuard]
theorem infoSgS {sc : Array Value} (h : sc.size = 20) : (Try.prog.info? 33).map (·.size) = some sc.size := by rw [h]; exact infoSg
set_option maxHeartbeats 4000000 in
theorem reads_walk (a : Option Addr) (n c : Nat) (bs : List UInt8) (w : World) (h : Sl w (.slice a n c) (bs.map cellB)) (hroom : bs.length ≤ 140737488355328) : Calls Try.prog 3 #[.slice a n c] w (RB w (.bool true)) := by
 have hn : n = bs.length := by
  obtain ⟨a2,c2,e,_⟩ := h
  rw [List.length_map] at e
  cases e
  rfl
 subst hn
 have HS := hid h
 have HRoom := hid hroom
 clear h hroom
 go_enter Try.func3,Try.ntmps3
 go_wp2_with fail
 refine (alive_any w).mono ?_
 rintro e w1 ⟨rfl,hb⟩
 have HB1 := hid hb
 have HS1 := hid (HS.out.below hb)
 clear hb
 obtain ⟨i0,hi,hz0,hz1,hz2⟩ := info_parts infoU8
 have X1 := hid hi
 have X2 := hid hz0
 have X3 := hid hz1
 have X4 := hid hz2
 have HM1 := hid (show 0 + bs.length ≤ maxLen by have := HRoom.out; unfold maxLen; omega)
 have HM2 := hid (show (0 + bs.length) * 1 ≤ 140737488355328 by have := HRoom.out; omega)
 have HSr := hid (show Src Try.prog 1 22 (.slice a bs.length c) bs.length (bs.map cellB) (w1.alloc (.cells #[] 5)) from by
  have := (HS1.out.alloc (.cells #[] 5)).src (P := Try.prog) (T := 22) Try.underlying22 (fun u hu => by obtain ⟨x,_,rfl⟩ := List.mem_map.1 hu; rfl)
  rw [List.length_map] at this
  exact this)
 clear hi hz0 hz1 hz2
 go_upto_region 4 with (at_builtin; refine wpList_app _ rfl (.tmp 11) (.tmp 12) 22 22 rfl w1.heap.size 5 i0 (.int .u8 0) 1 1 Try.underlying22 X1.out X2.out X3.out X4.out rfl (by decide) _ 0 [] rfl (ownsRow_empty _ _ _) _ bs.length (bs.map cellB) rfl HSr.out HM1.out HM2.out (by simp) ?_; intro a4 c4 w4 ho4 hg4 _ hl4; rw [List.nil_append,Nat.zero_add] at ho4; rw [Nat.zero_add] at hl4 ⊢; have HO4 := hid ho4; have HB4 := hid (((Below.refl _ w1).alloc (Nat.le_refl _) (.cells #[] 5)).trans ((Turn.of_grownBy hg4).below (by simp) (fun i e => by cases e; exact Nat.le_refl _))); clear ho4 hg4 hl4)
 have HB4w := hid (HB1.out.trans (HB4.out.mono HB1.out.size))
 have HS4 := hid (HS1.out.below HB4.out)
 clear HS1 HSr HM1 HM2
 go_wp2_with fail
 refine (ctldec_any _ bs w4 (Sl.of_owns HO4.out (by simp; have := HRoom.out; omega))).mono ?_
 intro e w5 he
 obtain ⟨sc1,rfl,hr1,hb5⟩ := ctl_gen he
 obtain ⟨hsz1,hoc1⟩ := hr1.size
 have HZ := hid (heap_new w5 (.cells sgZ 33))
 have hbz := (Below.refl w5.heap.size w5).alloc (Nat.le_refl _) (.cells sgZ 33)
 have HI1 := hid (infoSgS hsz1)
 have HSz1 := hid hsz1
 have HOc1 := hid hoc1
 have HO5 := hid (row_same (w' := w5) HO4.out (fun b e hb => hb5.block b hb))
 have HB5 := hid hb5
 have HS5 := hid (HS4.out.below hb5)
 have HR1 := hid hr1
 have HOlt := hid (fun b e => (HO4.out.lt b e).2)
 clear he hr1 hb5 HO4 HS4 hsz1 hoc1
 go_upto_region 5 with (refine wpList_store_row rfl 33 (.tmp 4) (.tmp 17) rfl w5.heap.size sc1 rfl rfl 33 sgZ HZ.out HI1.out HSz1.out.symm HOc1.out ?_)
 have hE := sg_end (B := w5.heap.size) (w := w5) sc1 hbz (Nat.le_refl _) HZ.out
 have HX6 := hid hE.1
 have HB6 := hid hE.2
 have HO6 := hid (row_same HO5.out (fun b e hb => hE.2.block b hb))
 have HR6 := hid (HR1.out.keep (fun b _ hb => hE.2.block b hb))
 have HS6 := hid (HS5.out.below hE.2)
 clear HO5 HR1 HS5 hE hbz HZ
 generalize (w5.alloc (.cells sgZ 33)).setRow w5.heap.size sc1 = w6 at *
 have hTA : TurnAt w1.heap.size a4 bs.length c4 w6 w6 (bs.map fun x => ((x.toNat : Nat) : Int)) := ⟨by rw [List.map_map]; exact HO6.out,Turn.refl _ _⟩
 have HTA := hid hTA
 have hl18 : (bs.length : Int) ≤ 140737488355328 := by have := HRoom.out; omega
 clear hTA HO6
 go_wp2_with fail
 go_loopw [6] (fun t6 wr => ∃ (i : Nat) (ys : List Int),i ≤ bs.length ∧ t6 = .int .i64 i ∧ TurnAt w1.heap.size a4 bs.length c4 w6 wr ys) (fun t6 _ => bs.length - (intOf t6).toNat)
 case atStart => exact ⟨0,_,Nat.zero_le _,rfl,HTA.out⟩
 case round =>
  obtain ⟨i,ys,hi,rfl,hT⟩ := hrel
  have HT := hid hT
  clear hT HTA
  by_cases hlt : i < bs.length
  ·obtain ⟨g,rfl,hg,hgc⟩ := row_open HT.out.row (by omega)
   have hyl : ys.length = bs.length := by have := HT.out.row.1; simpa using this
   have hc := HT.out.row.cellAt i (by omega)
   rw [List.getElem?_map,List.getElem?_eq_getElem (by omega)] at hc
   have hc : wr.cell? ⟨g,i,none⟩ = some (.int .u8 (ys[i]'(by omega))) := hc
   have hf := HT.out.row.frozenAt i
   generalize ys[i]'(by omega) = y at *
   have hi0 : (0 : Int) ≤ (i : Int) := by omega
   have hi1 : (i : Int) < (bs.length : Int) := by omega
   go_wp2_with fail
   go_round
   case rel => exact ⟨i + 1,_,by omega,by go_num,HT.out.next _⟩
   case measure => simp [intOf]; omega
  ·obtain rfl : i = bs.length := by omega
   have hd1 : decide (bs.length < bs.length) = false := decide_eq_false (by omega)
   obtain ⟨wq,rfl⟩ : ∃ x,x = wr := ⟨_,rfl⟩
   have HBq := hid (show Below w1.heap.size w1 wq from (HB4.out.trans ((HB5.out.mono HB4.out.size).trans (HB6.out.mono (Nat.le_trans HB4.out.size HB5.out.size)))).trans (HT.out.turn.below (Nat.le_trans HB4.out.size (Nat.le_trans HB5.out.size HB6.out.size)) fun b e => (HT.out.row.lt b e).1))
   have hnot : ∀ b,(Value.slice a4 bs.length c4).ownBlock = some b → b < w4.heap.size := HOlt.out
   have HXq := hid ((HT.out.turn.block _ (blk_lt HX6.out) (fun e => by have := hnot _ e; have := HB5.out.size; omega)).trans HX6.out)
   have HRq := hid (HR6.out.keep (w' := wq) (fun b e hb => HT.out.turn.block b hb (fun e2 => by have := hnot _ e2; omega)))
   have HBw := hid (HB1.out.trans (HBq.out.mono HB1.out.size))
   have HSq := hid (HS.out.below HBw.out)
   have HFb := hid (show ∀ b,(w4.heap.size ≤ b ∧ b < w5.heap.size) → b < wq.heap.size from fun b e => by have := HB6.out.size; have := HT.out.turn.size; omega)
   clear HT HX6 HR6 HS6 HBq hnot
   go_wp2_with fail
   refine (rctldec_any _ bs wq HSq.out).mono ?_
   intro e w7 he
   obtain ⟨sc2,rfl,hr2,hb7⟩ := ctl_gen he
   obtain ⟨hsz2,hoc2⟩ := hr2.size
   have HI2 := hid (infoSgS hsz2)
   have HSz2 := hid hsz2
   have HOc2 := hid hoc2
   have HZ7 := hid (heap_new w7 (.cells sgZ 33))
   have hbz := (Below.refl w7.heap.size w7).alloc (Nat.le_refl _) (.cells sgZ 33)
   have HR2 := hid hr2
   have HB7 := hid hb7
   have HR1 := hid (HRq.out.keep (fun b _ hb => hb7.block b hb))
   have HX7 := hid ((hb7.block _ (blk_lt HXq.out)).trans HXq.out)
   clear he hr2 hb7 HXq HRq HSq hsz2 hoc2
   go_upto_region 10 with (refine wpList_store_row rfl 33 (.tmp 7) (.tmp 36) rfl w7.heap.size sc2 rfl rfl 33 sgZ HZ7.out HI2.out HSz2.out.symm HOc2.out ?_)
   have hE := sg_end (B := w7.heap.size) (w := w7) sc2 hbz (Nat.le_refl _) HZ7.out
   have HX8 := hid ((hE.2.block _ (blk_lt HX7.out)).trans HX7.out)
   have HY8 := hid hE.1
   have HR18 := hid (HR1.out.keep (fun b _ hb => hE.2.block b hb))
   have HR28 := hid (HR2.out.keep (fun b _ hb => hE.2.block b hb))
   have HB8 := hid (HBw.out.trans ((HB7.out.mono HBw.out.size).trans (hE.2.mono (Nat.le_trans HBw.out.size HB7.out.size))))
   have HS8 := hid hE.2.size
   have HSz := hid (Nat.le_trans HB7.out.size hE.2.size)
   clear hE hbz HX7 HR1 HR2 HBw HZ7
   generalize (w7.alloc (.cells sgZ 33)).setRow w7.heap.size sc2 = w8 at *
   have HSame := hid (same23 (sgOut (ctlP bs)).1 (sgOut_x bs) _ _ sc1 sc2 w8 HR18.out HR28.out (fun b e => by have := HFb.out b e; have := HSz.out; omega) (fun b e => by have := HS8.out; omega))
   generalize w7.heap.size = b7 at *
   generalize w5.heap.size = b5 at *
   generalize (sgOut (ctlP bs)).2 = code at *
   first | apply wp_region_lit | (apply wp_seq_k; intro _ _; apply wp_region_lit)
   refine wpList_hide fun A hA => ?_
   refine wpList_val (by rw [hA]; kernel_rfl) (.int .i64 code) (by rw [hA]; kernel_rfl) ?_
   refine wpList_hide fun A1 hA1 => ?_
   refine wpList_val (by rw [hA1,hA]; kernel_rfl) (.int .i64 code) (by rw [hA1,hA]; kernel_rfl) ?_
   refine wpList_hide fun A2 hA2 => ?_
   refine wpList_val (by rw [hA2,hA1,hA]; kernel_rfl) (.bool true) (run_eq_same (k := .i64) (n := code) rfl (by rw [hA2,hA1,hA]; kernel_rfl) (by rw [hA2,hA1,hA]; kernel_rfl) _) ?_
   refine wpList_hide fun A3 hA3 => ?_
   refine wpList_val (by rw [hA3,hA2,hA1,hA]; kernel_rfl) (.bool true) (by rw [hA3,hA2,hA1,hA]; kernel_rfl) ?_
   refine wpList_hide fun A4 hA4 => ?_
   refine wpList_load_g (by rw [hA4,hA3,hA2,hA1,hA]; kernel_rfl) 33 (.tmp 4) rfl b5 (by rw [hA4,hA3,hA2,hA1,hA]; kernel_rfl) 33 sc1 (0,0) _ HX8.out Try.underlying33 rfl HI1.out ?_
   refine wpList_hide fun A5 hA5 => ?_
   refine wpList_load_g (by rw [hA5,hA4,hA3,hA2,hA1,hA]; kernel_rfl) 33 (.tmp 7) rfl b7 (by rw [hA5,hA4,hA3,hA2,hA1,hA]; kernel_rfl) 33 sc2 (0,0) _ HY8.out Try.underlying33 rfl HI2.out ?_
   refine wpList_hide fun A6 hA6 => ?_
   refine wpList_call2 (by rw [hA6,hA5,hA4,hA3,hA2,hA1,hA]; kernel_rfl) 7 (.tmp 42) (.tmp 43) 33 33 rfl (enters Try.func7 (by kernel_rfl) (by kernel_rfl)) (.agg sc1) (.agg sc2) (by rw [hA6,hA5,hA4,hA3,hA2,hA1,hA]; kernel_rfl) (by rw [hA6,hA5,hA4,hA3,hA2,hA1,hA]; kernel_rfl) HSame.out ?_
   rintro e w9 ⟨rfl,hb9⟩
   refine ⟨_,rfl,?_⟩
   have HB9 := hid (HB8.out.trans (hb9.mono HB8.out.size))
   clear hb9
   refine wpList_hide fun A7 hA7 => ?_
   refine wpList_val (by rw [hA7,hA6,hA5,hA4,hA3,hA2,hA1,hA]; kernel_rfl) (.bool true) (by rw [hA7,hA6,hA5,hA4,hA3,hA2,hA1,hA]; kernel_rfl) ?_
   refine wpList_hide fun A8 hA8 => ?_
   refine wpList_val (by rw [hA8,hA7,hA6,hA5,hA4,hA3,hA2,hA1,hA]; kernel_rfl) (.bool true) (by rw [hA8,hA7,hA6,hA5,hA4,hA3,hA2,hA1,hA]; kernel_rfl) ?_
   simp only [wpList,Exit.then]
   apply_assumption
   exact wp_ret (bodyPost_ret (results_tmp rfl _ _ _) (by rw [hA8,hA7,hA6,hA5,hA4,hA3,hA2,hA1,hA]; kernel_rfl) ⟨by rw [hA8,hA7,hA6,hA5,hA4,hA3,hA2,hA1,hA]; kernel_rfl,HB9.out⟩)
theorem reads_go (v : Value) (bs : List UInt8) (w : World) (h : Sl w v (bs.map cellB)) (hroom : bs.length ≤ 140737488355328) : Calls Try.prog 3 #[v] w (RB w (.bool true)) := by
 have h2 := h
 obtain ⟨a,c,rfl,_⟩ := h2
 exact reads_walk a _ c bs w h hroom
end Go.Proofs.Ytgadkiljnebicaa
