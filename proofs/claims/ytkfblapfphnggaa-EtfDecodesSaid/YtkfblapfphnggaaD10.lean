/- Several texts in one. -/
import Derived.Test.YtkfblapfphnggaaD09
import Derived.Test.YtkfblapfphnggaaD02
import Derived.Test.YtkfblapfphnggaaD03
import Derived.Test.YtkfblapfphnggaaD01
import Derived.StillTailTactics
/- The document's All. -/
namespace Go.Proofs.Ytkfblapfphnggaa
open Go.RowKit
set_option maxRecDepth 100000
attribute [local go_sem] run_store_complex

/-- HOW All ENDS -/
def AllPost (W : World) (F : Nat → Prop) (xs : List (Hd × Nat)) (e : Ending) (w' : World) : Prop :=
  ∃ (a : Option Addr) (cp : Nat) (ps : List (Array Value)), e = .returned (.slice a xs.length cp) ∧ w'.ownsRow W.heap.size 31 9 (.slice a xs.length cp) xs.length (cat ps) ∧ PartsOk w' F xs ps ∧ Below W.heap.size W w'
/-- how a round begins -/
structure AllAt (w wr : World) (F : Nat → Prop) (l : List Tm) (C : Array Value) (j N : Nat) (a : Option Addr) (cp : Nat) (ps : List (Array Value)) : Prop where
  le : j ≤ l.length
  num : N = 1 + (flatTs (l.take j)).length
  row : wr.ownsRow (w.heap.size + 1) 31 9 (.slice a N cp) N (C.toList ++ cat ps)
  parts : PartsOk wr F (flatTs (l.take j)) ps
  box : wr.heap[w.heap.size]? = some (.cells C 31 (0, 0))
  below : Below w.heap.size w wr
theorem AllAt.next {w wr w5 w6 : World} {F : Nat → Prop} {l : List Tm} {C : Array Value} {j N cp a6n : Nat} {a a6 : Option Addr} {ps ps2 : List (Array Value)} (h : AllAt w wr F l C j N a cp ps) (hj : j < l.length) (hF : ∀ b, F b → b < w.heap.size) (hb5 : Below wr.heap.size wr w5) (hp2 : PartsOk w5 F (flatT l[j]) ps2)
    (hg : w5.grownBy w6 (Value.slice a N cp).ownBlock) (ho : w6.ownsRow (w.heap.size + 1) 31 9 (.slice a6 (N + (flatT l[j]).length) a6n) (N + (flatT l[j]).length) ((C.toList ++ cat ps) ++ cat ps2)) :
    AllAt w w6 F l C (j + 1) (N + (flatT l[j]).length) a6 a6n (ps ++ ps2) := by
  have hT := Turn.of_grownBy hg
  have hown : ∀ i, (Value.slice a N cp).ownBlock = some i → w.heap.size + 1 ≤ i := fun i e => (h.row.lt i e).1
  have hsz := h.below.size
  have hbl := blk_lt h.box
  have hs5 := hb5.size
  refine ⟨by omega, ?_, by rw [cat_app, ← List.append_assoc]; exact ho, ?_, ?_, h.below.trans ((hb5.mono hsz).trans (hT.below (by omega) fun i e => by have := hown i e; omega))⟩
  · rw [flatTs_take hj, List.length_append, h.num]; omega
  · rw [flatTs_take hj]
    refine PartsOk.app ?_ ?_
    · refine PartsOk.keep (w := w5) (fun b e hb => hT.block b hb fun e2 => by have := hown b e2; have := hF b e; omega) (PartsOk.keep (fun b e hb => hb5.block b hb) h.parts)
    · exact PartsOk.keep (fun b e hb => hT.block b hb fun e2 => by have := hown b e2; have := hF b e; omega) hp2
  · exact (hT.block _ (by omega) fun e => by have := hown _ e; omega).trans ((hb5.block _ hbl).trans h.box)
set_option maxHeartbeats 2000000 in
theorem all_any : ∀ (sz : Nat) (t : Tm), (flatT t).length ≤ sz → ∀ (most : Nat) (m : Int) (F : Nat → Prop) (c : Array Value) (w : World), m = most → Rep w F t c → (∀ b, F b → b < w.heap.size) → (flatT t).length ≤ most → most ≤ 5000 →
    Calls Try.prog 21 #[.agg c, .int .i64 m] w (AllPost w F (flatT t)) := by
  intro sz
  induction sz with
  | zero => intro t h; have := flatT_pos t; omega
  | succ sz ih =>
    intro t hsz most m F c w hm hrep hF hmost h5
    obtain ⟨hd, l⟩ := t
    obtain ⟨bv, lv, rfl, hbv, vs, hlv, hreps⟩ := hrep
    obtain ⟨ba, bc, rfl⟩ := row_slice hbv.1
    obtain ⟨la, lc, rfl⟩ := row_slice hlv.1
    have HR := Lib.hid hlv
    have HS := Lib.hid hreps
    have HBv := Lib.hid hbv
    have HIH := Lib.hid ih
    have HF := Lib.hid hF
    have HFl := Lib.hid (show (flatT (.mk hd l)).length = 1 + (flatTs l).length by simp only [flatT, List.length_cons]; omega)
    rw [HFl.out] at hsz hmost
    have HM := Lib.hid hm
    have HSz := Lib.hid hsz
    have hm1 : (1 : Int) ≤ m := by omega
    have hm5 : m ≤ 5000 := by omega
    have HMo := Lib.hid hmost
    have hl5 : l.length ≤ 5000 := by have := flatTs_many l; omega
    clear hlv hreps hbv ih hF hm hsz hmost
    go_enter Try.func21, Try.ntmps21
    go_wp2_with fail
    obtain ⟨i0, hi, hz0, hz1, hz2⟩ := info_parts infoTm
    have X1 := Lib.hid hi
    have X2 := Lib.hid hz0
    have X3 := Lib.hid hz1
    have X4 := Lib.hid hz2
    clear hi hz0 hz1 hz2
    obtain ⟨C, hC⟩ : ∃ C : Array Value, hdC hd (.slice ba hd.b.length bc) (.slice la l.length lc) = C := ⟨_, rfl⟩
    have HC := Lib.hid hC
    have hrow0 : Hid (AllAt w ((w.alloc (.cells (hdC hd (.slice ba hd.b.length bc) (.slice la l.length lc)) 31)).alloc (.cells (hdC hd (.slice ba hd.b.length bc) (.slice la l.length lc)) 31)) F l C 0 1 (some ⟨w.heap.size + 1, 0, none⟩) 1 []) := Lib.hid (by
      rw [← hC]
      refine ⟨Nat.zero_le _, by simp [flatTs], ⟨by simp [cat], .inr ⟨w.heap.size + 1, 1, hdC hd (.slice ba hd.b.length bc) (.slice la l.length lc), rfl, by omega, heap_new_at (by simp), by omega, by decide, by simp, by simp [cat]⟩⟩, rfl, al2_fst, ((Below.refl _ w).alloc (Nat.le_refl _) _).alloc (by simp) _⟩)
    clear hC
    go_loopw [5, 6] (fun t5 t6 wr => ∃ (j N : Nat) (a : Option Addr) (cp : Nat) (ps : List (Array Value)), t6 = .int .i64 j ∧ t5 = .slice a N cp ∧ AllAt w wr F l C j N a cp ps) (fun _ t6 _ => l.length - (intOf t6).toNat)
    case atStart => exact ⟨0, 1, some ⟨w.heap.size + 1, 0, none⟩, 1, [], rfl, rfl, hrow0.out⟩
    case round =>
      obtain ⟨j, N, a, cp, ps, rfl, rfl, hA⟩ := hrel
      have HA := Lib.hid hA
      clear hA hrow0
      have hbx := HC.out ▸ HA.out.box
      by_cases hlt : j < l.length
      · obtain ⟨g, cap, hv, hg, hd2, bv2, pv2, hrep2, ⟨l2, hl2⟩, h9⟩ := HR.out.nine HS.out hlt
        have hgl := HF.out g hg
        cases hv
        have hkeep : ∀ b, F b → b < w.heap.size → wr.heap[b]? = w.heap[b]? := fun b e hb => HA.out.below.block b hb
        have h9' := h9.block (hkeep g hg hgl)
        have HRep := Lib.hid (Rep.keep hkeep _ _ hrep2)
        have HZ1 := Lib.hid (congrArg List.length (flatTs_take hlt))
        have HZ2 := Lib.hid (flatTs_le (l := l) (j + 1))
        obtain ⟨n0, n1, n2, n3, n4, n5, n6, n7, n8⟩ := h9'
        obtain ⟨hk2, hn2, hre2, him2, hs2, hnode2, hboot2, hidn2, hb2⟩ := hd2
        obtain ⟨ba2, bn2, bc2, rfl⟩ : ∃ a n c, bv2 = .slice a n c := by
          obtain ⟨bv3, pv3, e, hb3, _⟩ := hl2 ▸ hrep2
          cases e
          obtain ⟨a, c, e⟩ := row_slice hb3.1
          exact ⟨a, _, c, e⟩
        obtain ⟨pa2, pn2, pc2, rfl⟩ : ∃ a n c, pv2 = .slice a n c := by
          obtain ⟨bv3, pv3, e, _, vs2, hb3, _⟩ := hl2 ▸ hrep2
          cases e
          obtain ⟨a, c, e⟩ := row_slice hb3.1
          exact ⟨a, _, c, e⟩
        have HNm := Lib.hid HA.out.num
        have hNm : N + (flatT l[j]).length ≤ 1 + (flatTs l).length := by have h1 := HNm.out; have h2 := HZ1.out; have h3 := HZ2.out; rw [List.length_append] at h2; omega
        have hpos := flatT_pos l[j]
        have HNb := Lib.hid hNm
        have hj1 : (j : Int) < (l.length : Int) := by omega
        have hj0 : (0 : Int) ≤ (j : Int) := by omega
        have hN1 : (N : Int) < m := by have := HM.out; have := HMo.out; omega
        have hmw : IntKind.i64.wrap (m - (N : Int)) = m - (N : Int) := IntWalk.i64_in _ (by omega)
        have b8 : wr.cell? ⟨w.heap.size, 8, none⟩ = some (.slice (some ⟨g, 0, none⟩) l.length lc) := by simp [World.cell?, hbx]
        have H1 := HIH.out l[j] (by have := HNm.out; have := HSz.out; omega) (most - N) (m - (N : Int)) F _ wr (by have := HM.out; have := HMo.out; omega) HRep.out (fun b e => Nat.lt_of_lt_of_le (HF.out b e) HA.out.below.size) (by have := HMo.out; omega) (by omega)
        have H1 := Lib.hid H1
        clear h9 hkeep hrep2 hl2 hg hgl hpos hNm hbx HR
        go_wp2_with fail
        refine H1.out.mono ?_
        rintro e w5 ⟨a2, cp2, ps2, rfl, ho2, hp2, hb2⟩
        have HO2 := Lib.hid ho2
        have HP2 := Lib.hid hp2
        have HB2 := Lib.hid hb2
        have HRow5 := Lib.hid (row_same (w' := w5) HA.out.row (fun b e hb => hb2.block b hb))
        have HSr := Lib.hid (src_owns (P := Try.prog) (tx := 29) Try.underlying29 ho2 hp2.one.2)
        have HM1 := Lib.hid (show N + (flatT l[j]).length ≤ maxLen by have := HNb.out; have := HMo.out; unfold maxLen; omega)
        have HMB := Lib.hid (show (N + (flatT l[j]).length) * 120 ≤ 140737488355328 by have := HNb.out; have := HMo.out; omega)
        have HBs := Lib.hid (show w.heap.size + 1 ≤ w5.heap.size by have := hb2.size; have := blk_lt HA.out.box; omega)
        clear ho2 hp2 hb2 H1 hN1 hmw b8 n0 n1 n2 n3 n4 n5 n6 n7 n8
        generalize hL2 : (flatT l[j]).length = L2 at *
        have HL2 := Lib.hid hL2
        clear hL2
        go_wp2_with (at_builtin; refine wpList_app _ rfl (.tmp 24) (.tmp 34) 29 29 rfl (w.heap.size + 1) 31 i0 (.agg zC) 9 120 Try.underlying29 X1.out X2.out X3.out X4.out rfl (by decide) (.slice a N cp) N _ rfl HRow5.out (.slice a2 L2 cp2) L2 (cat ps2) rfl HSr.out HM1.out HMB.out HBs.out ?_; intro a6 c6 w6 ho6 hg6 _ _; have HO6 := Lib.hid ho6; have HG6 := Lib.hid hg6; clear ho6 hg6)
        go_round
        case rel =>
          have hx := HO6.out
          rw [← HL2.out] at hx ⊢
          exact ⟨j + 1, _, a6, c6, ps ++ ps2, by go_num, rfl, HA.out.next hlt HF.out HB2.out HP2.out HG6.out hx⟩
        case measure => simp [intOf]; omega
      · obtain rfl : j = l.length := by have := HA.out.le; omega
        have b8 : wr.cell? ⟨w.heap.size, 8, none⟩ = some (.slice la l.length lc) := by simp [World.cell?, hbx]
        have HNm := Lib.hid HA.out.num
        have hd1 : decide (l.length < l.length) = false := decide_eq_false (by omega)
        clear hbx
        go_wp2_with fail
        go_ret
        have hn := HNm.out
        have hp := HA.out.parts
        have hr := HA.out.row
        rw [List.take_length] at hn hp
        have hx : (flatT (.mk hd l)).length = N := by rw [HFl.out, hn]
        refine ⟨a, cp, C :: ps, by show Ending.returned (.slice a N cp) = _; rw [hx], by rw [hx, cat_cons]; exact owns_mono hr (Nat.le_succ _), ⟨C, ps, rfl, ⟨.slice ba hd.b.length bc, la, lc, HC.out.symm, HBv.out.keep fun b e hb => HA.out.below.block b hb⟩, hp⟩, HA.out.below⟩
end Go.Proofs.Ytkfblapfphnggaa
/- What string(b) is. -/
namespace Go.Proofs.Ytkfblapfphnggaa
open Go.RowKit
set_option maxRecDepth 100000

/-- string(b), the bytes lying as l says -/
theorem conv_any {P : Program} (w : World) {src dst e : TypeId} (hs : P.underlying src = some (.slice e)) (he : P.underlying e = some (.int .u8)) (hd : P.underlying dst = some .string) {v : Value} {l : List UInt8} (h : Sl w v (l.map cellB)) :
    (convert src dst v).run P w = .ok (.string ⟨l.toArray⟩) w := by
  obtain ⟨a, c, rfl, hm, hc⟩ := h
  have hlm : (l.map cellB).length = l.length := by simp
  rw [hlm]
  by_cases h0 : 0 < l.length
  · obtain ⟨b, off, rfl, hcell⟩ := hc (by simpa using h0)
    exact run_convert_bytes_back w src dst e ⟨b, off, none⟩ c l hs he hd (fun k hk => by
      have := hcell k (by simpa using hk)
      rw [List.getElem_map] at this
      rw [Addr.add_lit]
      exact this)
  · have hl : l = [] := List.eq_nil_of_length_eq_zero (by omega)
    subst hl
    show (convert src dst (.slice a 0 c)).run P w = _
    rw [run_convert_bytes_string w src dst e a 0 c hs he hd]
    cases a with
    | none => rfl
    | some a => exact run_bytesToString w a 0 c [] (by rfl)
end Go.Proofs.Ytkfblapfphnggaa
/- The document's flat: two parts with the same fields. -/
namespace Go.Proofs.Ytkfblapfphnggaa
open Go.RowKit
set_option maxRecDepth 100000
attribute [local go_sem] run_store_complex

theorem order_self {p : Nat} (h : p % 9223372036854775808 < 9218868437227405312) : (FloatKind.f64.format.order p p == some .eq) = true := by
  obtain ⟨s, m, e, hr⟩ := read_fin h
  show ((Ieee.double.read p).order (Ieee.double.read p) == some .eq) = true
  rw [hr]
  simp [Ieee.Datum.order]
/-- numbers that are ones -/
def HdFin (h : Hd) : Prop := (FloatKind.f64.format.order h.re h.re == some .eq) = true ∧ (FloatKind.f64.format.order h.im h.im == some .eq) = true
theorem row_sl {w : World} {F : Nat → Prop} {v : Value} {l : List UInt8} (h : Row w F 5 1 v l.length (l.map cellB)) (hl : l.length ≤ 9223372036854775807) : Sl w v (l.map cellB) := Sl.of_owns h.1 (by simpa using hl)
set_option maxHeartbeats 2000000 in
theorem flat_same (h : Hd) (hf : HdFin h) (hbl : h.b.length ≤ 9223372036854775807) (v1 v2 : Value) (a1 a2 : Option Addr) (n c1 c2 : Nat) (F1 F2 : Nat → Prop) (w : World) (h1 : Row w F1 5 1 v1 h.b.length (h.b.map cellB)) (h2 : Row w F2 5 1 v2 h.b.length (h.b.map cellB)) :
    Calls Try.prog 22 #[.agg (hdC h v1 (.slice a1 n c1)), .agg (hdC h v2 (.slice a2 n c2))] w (RB w (.bool true)) := by
  have HB := Lib.hid (((Below.refl w.heap.size w).alloc (Nat.le_refl _) (.cells (hdC h v1 (.slice a1 n c1)) 31)).alloc (by simp) (.cells (hdC h v2 (.slice a2 n c2)) 31))
  have S1 := Lib.hid ((row_sl h1 hbl).below HB.out)
  have S2 := Lib.hid ((row_sl h2 hbl).below HB.out)
  obtain ⟨b1, d1, rfl⟩ := row_slice h1.1
  obtain ⟨b2, d2, rfl⟩ := row_slice h2.1
  obtain ⟨f1, f2⟩ := hf
  have hcv1 := conv_any (P := Try.prog) _ Try.underlying22 Try.underlying5 Try.underlying9 S1.out
  have hcv2 := conv_any (P := Try.prog) _ Try.underlying22 Try.underlying5 Try.underlying9 S2.out
  clear h1 h2 S1 S2 hbl
  obtain ⟨k, n0, re, im, s, node, boot, idn, b⟩ := h
  generalize b.length = bl at *
  simp only at *
  go_enter Try.func22, Try.ntmps22
  go_wp2_with fail
  go_ret
  exact ⟨rfl, HB.out⟩
end Go.Proofs.Ytkfblapfphnggaa
/- The document's Same: two terms that read alike. -/
namespace Go.Proofs.Ytkfblapfphnggaa
open Go.RowKit
set_option maxRecDepth 100000
attribute [local go_sem] run_store_complex

set_option maxHeartbeats 4000000 in
theorem same_any (t : Tm) (hfin : ∀ x ∈ flatT t, HdFin x.1 ∧ x.1.b.length ≤ 9223372036854775807) (hlen : (flatT t).length ≤ 5000) (F1 F2 : Nat → Prop) (c1 c2 : Array Value) (w : World) (h1 : Rep w F1 t c1) (h2 : Rep w F2 t c2) (hF1 : ∀ b, F1 b → b < w.heap.size) (hF2 : ∀ b, F2 b → b < w.heap.size) :
    Calls Try.prog 8 #[.agg c1, .agg c2] w (RB w (.bool true)) := by
  have HFin := Lib.hid hfin
  have HLen := Lib.hid hlen
  have HF1 := Lib.hid hF1
  have HF2 := Lib.hid hF2
  have hB0 := (((Below.refl w.heap.size w).alloc (Nat.le_refl _) (.cells c1 31)).alloc (by simp) (.cells c2 31))
  have HR1 := Lib.hid (Rep.keep (fun b _ hb => hB0.block b hb) _ _ h1)
  have HR2 := Lib.hid (Rep.keep (fun b _ hb => hB0.block b hb) _ _ h2)
  have HB0 := Lib.hid hB0
  obtain ⟨q0, q1, q2, q3, q4, q5, q6, q7, q8, q9, q10, q11, q12, q13, rfl, _⟩ := rep_nine h1
  obtain ⟨r0, r1, r2, r3, r4, r5, r6, r7, r8, r9, r10, r11, r12, r13, rfl, _⟩ := rep_nine h2
  clear hfin hlen h1 h2 hF1 hF2 hB0
  go_enter Try.func8, Try.ntmps8
  go_wp2_with fail
  have HX := Lib.hid (al2_fst (w5 := w) (o1 := #[.int .i64 q0, .int .i64 q1, .complex .f64 q2 q3, .string q4, .int .i64 q5, .int .u32 q6, .int .u64 q7, .slice q8 q9 q10, .slice q11 q12 q13]) (o2 := #[.int .i64 r0, .int .i64 r1, .complex .f64 r2 r3, .string r4, .int .i64 r5, .int .u32 r6, .int .u64 r7, .slice r8 r9 r10, .slice r11 r12 r13]) (t1 := 31) (t2 := 31))
  have hY : ((w.alloc (.cells #[.int .i64 q0, .int .i64 q1, .complex .f64 q2 q3, .string q4, .int .i64 q5, .int .u32 q6, .int .u64 q7, .slice q8 q9 q10, .slice q11 q12 q13] 31)).alloc (.cells #[.int .i64 r0, .int .i64 r1, .complex .f64 r2 r3, .string r4, .int .i64 r5, .int .u32 r6, .int .u64 r7, .slice r8 r9 r10, .slice r11 r12 r13] 31)).heap[w.heap.size + 1]? = some (.cells #[.int .i64 r0, .int .i64 r1, .complex .f64 r2 r3, .string r4, .int .i64 r5, .int .u32 r6, .int .u64 r7, .slice r8 r9 r10, .slice r11 r12 r13] 31 (0, 0)) := heap_new_at (by simp)
  have HY := Lib.hid hY
  clear hY
  generalize (w.alloc (.cells #[.int .i64 q0, .int .i64 q1, .complex .f64 q2 q3, .string q4, .int .i64 q5, .int .u32 q6, .int .u64 q7, .slice q8 q9 q10, .slice q11 q12 q13] 31)).alloc (.cells #[.int .i64 r0, .int .i64 r1, .complex .f64 r2 r3, .string r4, .int .i64 r5, .int .u32 r6, .int .u64 r7, .slice r8 r9 r10, .slice r11 r12 r13] 31) = w2 at *
  refine (all_any _ t (Nat.le_refl _) 5000 5000 F1 _ w2 rfl HR1.out (fun b e => Nat.lt_of_lt_of_le (HF1.out b e) HB0.out.size) HLen.out (Nat.le_refl _)).mono ?_
  rintro e w3 ⟨a1, d1, ps1, rfl, ho1, hp1, hb3⟩
  have HO1 := Lib.hid ho1
  have HP1 := Lib.hid hp1
  have HB3 := Lib.hid hb3
  have HR2' := Lib.hid (Rep.keep (fun b _ hb => hb3.block b hb) _ _ HR2.out)
  obtain ⟨y0, y1, y2, y3, y4, y5, y6, y7, y8⟩ := NineAt.of_block ((hb3.block _ (blk_lt HY.out)).trans HY.out)
  clear ho1 hp1 hb3 HR1 HR2 HX HY
  go_wp2_with fail
  clear y0 y1 y2 y3 y4 y5 y6 y7 y8
  refine (all_any _ t (Nat.le_refl _) 5000 5000 F2 _ w3 rfl HR2'.out (fun b e => Nat.lt_of_lt_of_le (HF2.out b e) (Nat.le_trans HB0.out.size HB3.out.size)) HLen.out (Nat.le_refl _)).mono ?_
  rintro e w4 ⟨a2, d2, ps2, rfl, ho2, hp2, hb4⟩
  have HO2 := Lib.hid ho2
  have HP2 := Lib.hid hp2
  have HB4 := Lib.hid hb4
  have HO1' := Lib.hid (row_same (w' := w4) HO1.out (fun b e hb => hb4.block b hb))
  have HP1' := Lib.hid (PartsOk.keep (fun b _ hb => hb4.block b hb) HP1.out)
  have HBw := Lib.hid (HB0.out.trans ((HB3.out.mono HB0.out.size).trans (hb4.mono (Nat.le_trans HB0.out.size HB3.out.size))))
  clear ho2 hp2 hb4 HO1 HP1 HR2' HB0 HB3 HB4
  obtain ⟨xs, hxs⟩ : ∃ xs, flatT t = xs := ⟨_, rfl⟩
  rw [hxs] at HFin HLen HP2 HP1' HO2 HO1' ⊢
  clear hxs
  have hl5 : xs.length ≤ 5000 := HLen.out
  have hne : ((xs.length : Int) != (xs.length : Int)) = false := by simp
  go_wp2_with fail
  clear hne
  go_loopw [7] (fun t7 wr => ∃ i : Nat, i ≤ xs.length ∧ t7 = .int .i64 i ∧ Below w4.heap.size w4 wr) (fun t7 _ => xs.length - (intOf t7).toNat)
  case atStart => exact ⟨0, Nat.zero_le _, rfl, Below.refl _ _⟩
  case round =>
    obtain ⟨i, hi, rfl, hB⟩ := hrel
    have HB := Lib.hid hB
    clear hB
    by_cases hlt : i < xs.length
    · obtain ⟨g1, cap1, hv1, hg1, hgl1, bv1, e1, n1, hr1, h91⟩ := owns_nine HO1'.out HP1'.out hlt
      obtain ⟨g2, cap2, hv2, hg2, hgl2, bv2, e2, n2, hr2, h92⟩ := owns_nine HO2.out HP2.out hlt
      obtain ⟨hf, hbl⟩ := HFin.out _ (List.getElem_mem hlt)
      have h91' := h91.block (HB.out.block g1 hgl1)
      have h92' := h92.block (HB.out.block g2 hgl2)
      have HRow1 := Lib.hid (hr1.keep (fun b _ hb => HB.out.block b hb))
      have HRow2 := Lib.hid (hr2.keep (fun b _ hb => HB.out.block b hb))
      cases hv1
      cases hv2
      obtain ⟨x1, y1, rfl⟩ := row_slice hr1.1
      obtain ⟨x2, y2, rfl⟩ := row_slice hr2.1
      have HFl := Lib.hid (flat_same xs[i].1 hf hbl (.slice x1 xs[i].1.b.length y1) (.slice x2 xs[i].1.b.length y2) e1 e2 xs[i].2 n1 n2 F1 F2)
      clear hr1 hr2 h91 h92 hf hbl hg1 hg2 hgl1 hgl2
      generalize xs[i] = x at *
      obtain ⟨⟨k, n, re, im, s, node, boot, idn, b⟩, m⟩ := x
      simp only at *
      obtain ⟨k0, k1, k2, k3, k4, k5, k6, k7, k8⟩ := h91'
      obtain ⟨l0, l1, l2, l3, l4, l5, l6, l7, l8⟩ := h92'
      have hi0 : (0 : Int) ≤ (i : Int) := by omega
      have hi1 : (i : Int) < (xs.length : Int) := by omega
      have hwi : IntKind.i64.wrap ((i : Int) + 1) = (i : Int) + 1 := IntWalk.i64_in _ (by omega)
      go_wp2_with fail
      go_still_tail 8, (by kernel_rfl)
      change wpList _ _ _ _ _ wr.drew
      have HF2 := Lib.hid (HFl.out wr.drew HRow1.out HRow2.out)
      clear k0 k1 k2 k3 k4 k5 k6 k7 k8 l0 l1 l2 l3 l4 l5 l6 l7 l8 HFl
      go_wp2_with (refine HF2.out.mono ?_; rintro e w5 ⟨rfl, hb⟩; have HB5 := Lib.hid (HB.out.drew.trans (hb.mono (show w4.heap.size ≤ wr.drew.heap.size from HB.out.size))); clear hb)
      go_round
      case rel => exact ⟨i + 1, by omega, by go_num, HB5.out⟩
      case measure => simp [intOf]; omega
    · obtain rfl : i = xs.length := by omega
      have hd1 : decide (xs.length < xs.length) = false := decide_eq_false (by omega)
      go_wp2_with fail
      go_ret
      exact ⟨rfl, HBw.out.trans (HB.out.mono HBw.out.size)⟩
end Go.Proofs.Ytkfblapfphnggaa
