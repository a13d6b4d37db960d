/- Several texts in one. -/
import Derived.Test.YtkfblapfphnggaaD44
import Derived.Test.YtkfblapfphnggaaD10
import Derived.Test.YtkfblapfphnggaaD23
import Derived.Test.YtkfblapfphnggaaD01
import Derived.ProofKit
import Derived.OpenShut
import Derived.ShutString
import Derived.ChangeOld
import Derived.SliceStrings
/- What is decoded: plain facts; bytes that came in. -/
namespace Go.Proofs.Ytkfblapfphnggaa
open Go.RowKit Go.WideShapes Go.ChangeShapes
set_option maxRecDepth 100000

theorem dec_read {bs : List UInt8} {t : Tm} (h : decodeP bs = .ok t) : GoodT 24 t ∧ sizeT t ≤ 4096 := by
  unfold decodeP at h
  split at h
  · cases h
  · cases ho : oneP bs ⟨0, 0, []⟩ with
    | error e => rw [ho] at h; cases h
    | ok y =>
      obtain ⟨c, s⟩ := y
      obtain ⟨_, o2, _⟩ := oneP_ok ho
      rw [ho] at h
      simp only at h
      split at h
      · cases h
      · cases hp : partP bs 24 s with
        | error e => rw [hp] at h; cases h
        | ok z =>
          obtain ⟨t2, s2⟩ := z
          rw [hp] at h
          simp only at h
          split at h
          · cases h
          · cases h
            have r := part_read bs 24 s t s2 hp
            have hn : s.n = 0 := by rw [o2]
            have hnm : s.names = [] := by rw [o2]
            refine ⟨(r.good (by rw [hnm]; simp)).1, ?_⟩
            have := r.cnt
            have := r.le
            omega
/-- what both readers hand out -/
def outOf : Except Int Tm → Tm × Int
  | .ok t => (t, 0)
  | .error x => (.mk {} [], x)
theorem dec_gen {W w' : World} {r : Except Int Tm} {e : Ending} (h : DecPost W r e w') : ∃ cs, e = .returned (.tuple #[.agg cs, .int .i64 (outOf r).2]) ∧ Rep w' (fun b => W.heap.size ≤ b ∧ b < w'.heap.size) (outOf r).1 cs ∧ Below W.heap.size W w' := by
  cases r with
  | ok t =>
    obtain ⟨c, rfl, hr, hb⟩ := h
    exact ⟨c, rfl, Rep.mono (fun b e hb => ⟨e, hb⟩) _ _ hr, hb⟩
  | error x =>
    obtain ⟨rfl, hb⟩ := h
    exact ⟨zC, rfl, Rep.leaf (h := {}) rfl, hb⟩
theorem hd_fin {h : Hd} {l : List Tm} (k : HdOk h l) : HdFin h := by
  have z : (FloatKind.f64.format.order 0 0 == some .eq) = true := order_self (by decide)
  cases k with
  | cx p q hp hq h =>
    have h2 : okF p = true ∧ okF q = true := by simpa using h
    refine ⟨order_self ?_, order_self ?_⟩
    · have := h2.1; simp [okF] at this; exact this.1
    · have := h2.2; simp [okF] at this; exact this.1
  | _ => exact ⟨z, z⟩
mutual
theorem flat_fin : ∀ (r : Nat) (t : Tm), GoodT r t → ∀ x ∈ flatT t, HdFin x.1 ∧ x.1.b.length ≤ sizeT t
  | 0, _, h, _, _ => h.elim
  | r + 1, .mk h l, hg, x, hx => by
    simp only [flatT, List.mem_cons] at hx
    rcases hx with rfl | hx
    · exact ⟨hd_fin hg.1, by simp only [sizeT]; omega⟩
    · have := flats_fin r l hg.2 x hx
      exact ⟨this.1, by simp only [sizeT]; omega⟩
theorem flats_fin : ∀ (r : Nat) (l : List Tm), (∀ t ∈ l, GoodT r t) → ∀ x ∈ flatTs l, HdFin x.1 ∧ x.1.b.length ≤ sizeTs l
  | _, [], _, x, hx => by simp [flatTs] at hx
  | r, t :: l, hg, x, hx => by
    simp only [flatTs, List.mem_append] at hx
    rcases hx with hx | hx
    · have := flat_fin r t (hg t (by simp)) x hx
      exact ⟨this.1, by simp only [sizeTs]; omega⟩
    · have := flats_fin r l (fun t ht => hg t (by simp [ht])) x hx
      exact ⟨this.1, by simp only [sizeTs]; omega⟩
end
theorem out_fin (bs : List UInt8) : (∀ x ∈ flatT (outOf (decodeP bs)).1, HdFin x.1 ∧ x.1.b.length ≤ 9223372036854775807) ∧ (flatT (outOf (decodeP bs)).1).length ≤ 5000 := by
  cases h : decodeP bs with
  | ok t =>
    obtain ⟨h1, h2⟩ := dec_read h
    refine ⟨fun x hx => ?_, ?_⟩
    · have := flat_fin 24 t h1 x hx
      exact ⟨this.1, by omega⟩
    · have := flatT_le t
      show (flatT t).length ≤ 5000
      omega
  | error x =>
    refine ⟨fun y hy => ?_, by show 1 ≤ 5000; decide⟩
    simp [outOf, flatT, flatTs] at hy
    subst hy
    exact ⟨⟨order_self (by decide), order_self (by decide)⟩, by decide⟩
/-- bytes that came in -/
theorem bytes_open {H : Type} {enc : TypeId × Value → H} {w : World} {x : Option Addr} {len cap : Nat} {d : DataW H} {ps : List MemPlace} (h : DataW.Trod enc Try.prog w 0 (fun _ => true) true 22 (.slice x len cap) d ps) :
    ∃ bs : List UInt8, Sl w (.slice x len cap) (bs.map cellB) := by
  obtain ⟨zs, _, _, hs, hw, _⟩ := sl_open Try.underlying22 Try.underlying5 (by kernel_rfl) h
  refine ⟨zs.map fun z => UInt8.ofNat z.toNat, ?_⟩
  have e : (zs.map fun z => UInt8.ofNat z.toNat).map cellB = zs.map (Value.int .u8) := by
    rw [List.map_map]
    refine List.map_congr_left fun z hz => ?_
    have hwz := hw z hz
    have hz2 : 0 ≤ z ∧ z < 256 := by
      simp [Lit.wf] at hwz
      have e1 : IntKind.u8.min = 0 := by decide
      have e2 : IntKind.u8.max = 255 := by decide
      omega
    show Value.int .u8 _ = _
    rw [ofNat_toNat]
    congr 1
    omega
  rw [e]
  exact hs
end Go.Proofs.Ytkfblapfphnggaa
/- EtfDecodes: the walk. -/
namespace Go.Proofs.Ytkfblapfphnggaa
open Go.RowKit
set_option maxRecDepth 100000
attribute [local go_sem] run_store_complex

/-- the copy's bytes are turned -/
structure TurnAt (B : Nat) (a : Option Addr) (n c : Nat) (w5 wr : World) (ys : List Int) : Prop where
  row : wr.ownsRow B 5 1 (.slice a n c) n (ys.map (Value.int .u8))
  turn : Turn (fun i => (Value.slice a n c).ownBlock = some i) w5 wr
theorem TurnAt.next {B g n c j : Nat} {w5 wr : World} {ys : List Int} (h : TurnAt B (some ⟨g, 0, none⟩) n c w5 wr ys) (y : Int) : TurnAt B (some ⟨g, 0, none⟩) n c w5 (wr.setCell ⟨g, j, none⟩ (.int .u8 y)) (ys.set j y) := by
  have h1 := (h.row.stored j (.int .u8 y)).1
  refine ⟨by rw [List.map_set]; exact h1, h.turn.trans ((Turn.setCell wr g j (.int .u8 y)).mono fun i _ e => by rw [e]; rfl)⟩
set_option maxHeartbeats 4000000 in
theorem decodes_walk (a : Option Addr) (n c : Nat) (bs : List UInt8) (w : World) (h : Sl w (.slice a n c) (bs.map cellB)) : Calls Try.prog 3 #[.slice a n c] w (RB w (.bool true)) := by
  have hn : n = bs.length := by
    obtain ⟨a2, c2, e, _⟩ := h
    rw [List.length_map] at e
    cases e
    rfl
  subst hn
  have HS := Lib.hid h
  clear h
  go_enter Try.func3, Try.ntmps3
  go_wp2_with fail
  refine (alive_any w).mono ?_
  rintro e w1 ⟨rfl, hb⟩
  have HB1 := Lib.hid hb
  have HS1 := Lib.hid (HS.out.below hb)
  clear hb
  by_cases hbig : 262144 < bs.length
  · have hbi : (262144 : Int) < (bs.length : Int) := by omega
    go_wp2_with fail
    go_ret
    exact ⟨rfl, HB1.out⟩
  · have hbi : ¬ (262144 : Int) < (bs.length : Int) := by omega
    have hd : decide ((262144 : Int) < (bs.length : Int)) = false := decide_eq_false hbi
    have HBg := Lib.hid hbig
    obtain ⟨i0, hi, hz0, hz1, hz2⟩ := info_parts infoU8
    have X1 := Lib.hid hi
    have X2 := Lib.hid hz0
    have X3 := Lib.hid hz1
    have X4 := Lib.hid hz2
    have HM1 := Lib.hid (show 0 + bs.length ≤ maxLen by unfold maxLen; omega)
    have HM2 := Lib.hid (show (0 + bs.length) * 1 ≤ 140737488355328 by omega)
    have HSr := Lib.hid (show Src Try.prog 1 22 (.slice a bs.length c) bs.length (bs.map cellB) (w1.alloc (.cells #[] 5)) from by
      have := (HS1.out.alloc (.cells #[] 5)).src (P := Try.prog) (T := 22) Try.underlying22 (fun u hu => by obtain ⟨x, _, rfl⟩ := List.mem_map.1 hu; rfl)
      rw [List.length_map] at this
      exact this)
    clear hi hz0 hz1 hz2 hbig
    go_upto_region 6 with (at_builtin; refine wpList_app _ rfl (.tmp 14) (.tmp 15) 22 22 rfl w1.heap.size 5 i0 (.int .u8 0) 1 1 Try.underlying22 X1.out X2.out X3.out X4.out rfl (by decide) _ 0 [] rfl (ownsRow_empty _ _ _) _ bs.length (bs.map cellB) rfl HSr.out HM1.out HM2.out (by simp) ?_; intro a4 c4 w4 ho4 hg4 _ hl4; rw [List.nil_append, Nat.zero_add] at ho4; rw [Nat.zero_add] at hl4 ⊢; have HO4 := Lib.hid ho4; have HB4 := Lib.hid (((Below.refl _ w1).alloc (Nat.le_refl _) (.cells #[] 5)).trans ((Turn.of_grownBy hg4).below (by simp) (fun i e => by cases e; exact Nat.le_refl _))); clear ho4 hg4 hl4)
    have HB4w := Lib.hid (HB1.out.trans (HB4.out.mono HB1.out.size))
    have HS4 := Lib.hid (HS1.out.below HB4.out)
    clear HS1 HSr HM1 HM2
    go_wp2_with fail
    refine (decode_any _ bs w4 (Sl.of_owns HO4.out (by simp; have := HBg.out; omega))).mono ?_
    intro e w5 he
    obtain ⟨cs1, rfl, hr1, hb5⟩ := dec_gen he
    have HR1 := Lib.hid hr1
    have HO5 := Lib.hid (row_same (w' := w5) HO4.out (fun b e hb => hb5.block b hb))
    have HB5 := Lib.hid hb5
    have HS5 := Lib.hid (HS4.out.below hb5)
    have HOlt := Lib.hid (fun b e => (HO4.out.lt b e).2)
    obtain ⟨q0, q1, q2, q3, q4, q5, q6, q7, q8, q9, q10, q11, q12, q13, rfl⟩ := rep_nine' hr1
    clear he hr1 hb5 HO4 HS4
    go_upto_region 7 with fail
    have HX6 := Lib.hid (heap_new w5 (.cells #[.int .i64 q0, .int .i64 q1, .complex .f64 q2 q3, .string q4, .int .i64 q5, .int .u32 q6, .int .u64 q7, .slice q8 q9 q10, .slice q11 q12 q13] 31))
    have HB6 := Lib.hid ((Below.refl w5.heap.size w5).alloc (Nat.le_refl _) (.cells #[.int .i64 q0, .int .i64 q1, .complex .f64 q2 q3, .string q4, .int .i64 q5, .int .u32 q6, .int .u64 q7, .slice q8 q9 q10, .slice q11 q12 q13] 31))
    have HO6 := Lib.hid (row_same HO5.out (fun b e hb => HB6.out.block b hb))
    have HOl5 := Lib.hid (fun b e => (HO5.out.lt b e).2)
    have HR6 := Lib.hid (Rep.keep (fun b _ hb => HB6.out.block b hb) _ _ HR1.out)
    have HS6 := Lib.hid (HS5.out.below HB6.out)
    clear HO5 HR1 HS5
    generalize w5.alloc (.cells #[.int .i64 q0, .int .i64 q1, .complex .f64 q2 q3, .string q4, .int .i64 q5, .int .u32 q6, .int .u64 q7, .slice q8 q9 q10, .slice q11 q12 q13] 31) = w6 at *
    have hTA : TurnAt w1.heap.size a4 bs.length c4 w6 w6 (bs.map fun x => ((x.toNat : Nat) : Int)) := ⟨by rw [List.map_map]; exact HO6.out, Turn.refl _ _⟩
    have HTA := Lib.hid hTA
    have hl18 : (bs.length : Int) ≤ 262144 := by omega
    clear hTA hbi hd HO6
    go_wp2_with fail
    go_loopw [6] (fun t6 wr => ∃ (i : Nat) (ys : List Int), i ≤ bs.length ∧ t6 = .int .i64 i ∧ TurnAt w1.heap.size a4 bs.length c4 w6 wr ys) (fun t6 _ => bs.length - (intOf t6).toNat)
    case atStart => exact ⟨0, _, Nat.zero_le _, rfl, HTA.out⟩
    case round =>
      obtain ⟨i, ys, hi, rfl, hT⟩ := hrel
      have HT := Lib.hid hT
      clear hT HTA
      by_cases hlt : i < bs.length
      · obtain ⟨g, rfl, hg, hgc⟩ := row_open HT.out.row (by omega)
        have hyl : ys.length = bs.length := by have := HT.out.row.1; simpa using this
        have hc := HT.out.row.cellAt i (by omega)
        rw [List.getElem?_map, List.getElem?_eq_getElem (by omega)] at hc
        have hc : wr.cell? ⟨g, i, none⟩ = some (.int .u8 (ys[i]'(by omega))) := hc
        have hf := HT.out.row.frozenAt i
        generalize ys[i]'(by omega) = y at *
        have hi0 : (0 : Int) ≤ (i : Int) := by omega
        have hi1 : (i : Int) < (bs.length : Int) := by omega
        go_wp2_with fail
        go_round
        case rel => exact ⟨i + 1, _, by omega, by go_num, HT.out.next _⟩
        case measure => simp [intOf]; omega
      · obtain rfl : i = bs.length := by omega
        have hd1 : decide (bs.length < bs.length) = false := decide_eq_false (by omega)
        obtain ⟨wq, rfl⟩ : ∃ x, x = wr := ⟨_, rfl⟩
        have HBq := Lib.hid (show Below w1.heap.size w1 wq from (HB4.out.trans ((HB5.out.mono HB4.out.size).trans (HB6.out.mono (Nat.le_trans HB4.out.size HB5.out.size)))).trans (HT.out.turn.below (Nat.le_trans HB4.out.size (Nat.le_trans HB5.out.size HB6.out.size)) fun b e => (HT.out.row.lt b e).1))
        have hnot : ∀ b, (Value.slice a4 bs.length c4).ownBlock = some b → b < w4.heap.size := HOlt.out
        have HXq := Lib.hid ((HT.out.turn.block _ (blk_lt HX6.out) (fun e => by have := hnot _ e; have := HB5.out.size; omega)).trans HX6.out)
        have HRq := Lib.hid (Rep.keep (w' := wq) (fun b e hb => HT.out.turn.block b hb (fun e2 => by have := hnot _ e2; omega)) _ _ HR6.out)
        have HBw := Lib.hid (HB1.out.trans (HBq.out.mono HB1.out.size))
        have HSq := Lib.hid (HS.out.below HBw.out)
        have HFb := Lib.hid (show ∀ b, (w4.heap.size ≤ b ∧ b < w5.heap.size) → b < wq.heap.size from fun b e => by have := HB6.out.size; have := HT.out.turn.size; omega)
        have hx4 : w5.heap.size < wq.heap.size := blk_lt HXq.out
        clear HT HX6 HR6 HS6 HBq hnot
        go_wp2_with fail
        refine (refdecode_any _ bs wq HSq.out).mono ?_
        intro e w7 he
        obtain ⟨cs2, rfl, hr2, hb7⟩ := dec_gen he
        have HR2 := Lib.hid hr2
        have HB7 := Lib.hid hb7
        have HR1 := Lib.hid (Rep.keep (fun b _ hb => hb7.block b hb) _ _ HRq.out)
        have HX7 := Lib.hid ((hb7.block _ (blk_lt HXq.out)).trans HXq.out)
        obtain ⟨r0, r1, r2, r3, r4, r5, r6, r7, r8, r9, r10, r11, r12, r13, rfl⟩ := rep_nine' hr2
        clear he hr2 hb7 HXq HRq HSq
        go_upto_region 12 with fail
        have HX8 := Lib.hid ((Below.heap_alloc w7 (.cells #[.int .i64 r0, .int .i64 r1, .complex .f64 r2 r3, .string r4, .int .i64 r5, .int .u32 r6, .int .u64 r7, .slice r8 r9 r10, .slice r11 r12 r13] 31) _ (blk_lt HX7.out)).trans HX7.out)
        have HY8 := Lib.hid (heap_new w7 (.cells #[.int .i64 r0, .int .i64 r1, .complex .f64 r2 r3, .string r4, .int .i64 r5, .int .u32 r6, .int .u64 r7, .slice r8 r9 r10, .slice r11 r12 r13] 31))
        have hb8 := ((Below.refl w7.heap.size w7).alloc (Nat.le_refl _) (.cells #[.int .i64 r0, .int .i64 r1, .complex .f64 r2 r3, .string r4, .int .i64 r5, .int .u32 r6, .int .u64 r7, .slice r8 r9 r10, .slice r11 r12 r13] 31))
        have HR18 := Lib.hid (Rep.keep (fun b _ hb => hb8.block b hb) _ _ HR1.out)
        have HR28 := Lib.hid (Rep.keep (fun b _ hb => hb8.block b hb) _ _ HR2.out)
        have HB8 := Lib.hid (HBw.out.trans ((HB7.out.mono HBw.out.size).trans (hb8.mono (Nat.le_trans HBw.out.size HB7.out.size))))
        have HS8 := Lib.hid hb8.size
        have HSz := Lib.hid (Nat.le_trans HB7.out.size hb8.size)
        clear hb8 HX7 HR1 HR2 HBw
        generalize w7.alloc (.cells #[.int .i64 r0, .int .i64 r1, .complex .f64 r2 r3, .string r4, .int .i64 r5, .int .u32 r6, .int .u64 r7, .slice r8 r9 r10, .slice r11 r12 r13] 31) = w8 at *
        generalize w7.heap.size = b7 at *
        generalize w5.heap.size = b5 at *
        obtain ⟨k0, k1, k2, k3, k4, k5, k6, k7, k8⟩ := NineAt.of_block HX8.out
        obtain ⟨l0, l1, l2, l3, l4, l5, l6, l7, l8⟩ := NineAt.of_block HY8.out
        have hof := out_fin bs
        have HSame := Lib.hid (same_any (outOf (decodeP bs)).1 hof.1 hof.2 _ _ _ _ w8 HR18.out HR28.out (fun b e => by have := HFb.out b e; have := HSz.out; omega) (fun b e => by have := HS8.out; omega))
        clear hof
        generalize (outOf (decodeP bs)).2 = code at *
        go_wp2_with fail
        refine HSame.out.mono ?_
        rintro e w9 ⟨rfl, hb9⟩
        have HB9 := Lib.hid (HB8.out.trans (hb9.mono HB8.out.size))
        clear hb9 k0 k1 k2 k3 k4 k5 k6 k7 k8 l0 l1 l2 l3 l4 l5 l6 l7 l8
        go_wp2_with fail
        go_ret
        exact ⟨by first | rfl | (simp; done), HB9.out⟩
theorem decodes_go (v : Value) (bs : List UInt8) (w : World) (h : Sl w v (bs.map cellB)) : Calls Try.prog 3 #[v] w (RB w (.bool true)) := by
  have h2 := h
  obtain ⟨a, c, rfl, _⟩ := h2
  exact decodes_walk a _ c bs w h
end Go.Proofs.Ytkfblapfphnggaa
/- The close of a law's row, of no program: a call that returns true and turns nothing that was there. -/
namespace Go.Proofs.Ytkfblapfphnggaa
open Go.ChangeShapes Go.WideShapes Go.ChangeAt Go.RowKit

theorem trodAll_below {H : Type} {enc : TypeId × Value → H} {P : Program} (hl : laidOutB P = true) {W W' : World} (hb : Below W.heap.size W W') : ∀ (ts : List TypeId) (vs : List Value) (ds : List (DataW H)) (ps : List MemPlace),
    (∀ t ∈ ts, P.readableRec t = true ∧ t < P.types.size) → DataW.TrodAll enc P W 0 (fun _ => true) true ts vs ds ps → DataW.TrodAll enc P W' 0 (fun b => decide (b < W.heap.size)) true ts vs ds ps
  | [], [], [], ps, _, h => h
  | t :: ts, v :: vs, d :: ds, ps, hr, h => by
    obtain ⟨p, q, h1, h2, rfl⟩ := h
    have hlt : ∀ x ∈ p, x.block < W.heap.size := by obtain ⟨m, hm⟩ := h1; exact DataW.trod_lt m _ _ _ hm
    exact ⟨p, q, Below.trod hl (hr t (by simp)).1 (hr t (by simp)).2 h1 hb hlt, trodAll_below hl hb ts vs ds q (fun t' ht => hr t' (List.mem_cons_of_mem _ ht)) h2, rfl⟩
  | [], [], _ :: _, _, _, h => by simp [DataW.TrodAll] at h
  | [], _ :: _, _, _, _, h => by simp [DataW.TrodAll] at h
  | _ :: _, [], _, _, _, h => by simp [DataW.TrodAll] at h
  | _ :: _, _ :: _, [], _, _, h => by simp [DataW.TrodAll] at h
theorem post_law {H : Type} {enc : TypeId × Value → H} {P : Program} {f : Func} {s : ChangeSpec} {W W' : World} {args : Array Value} {ds : List (DataW H)} {before : List MemPlace} (T : TypeId) (hl : laidOutB P = true)
    (hr : ∀ t ∈ f.params.toList, P.readableRec t = true ∧ t < P.types.size) (hv : s.vars = []) (hW : DataW.Whole enc P f.params.toList s.vars false W args.toList ds [] before)
    (hfn : s.fn H (ds ++ []) = { results := [.lit (.bool true)], args := ds }) (hres : f.resultTypes.toList = [T]) (hT : P.underlying T = some .bool) (hsz : f.resultTypes.size = 1) (hb : Below W.heap.size W W') :
    s.post enc P f false true false false W args (.bool true) W' := by
  obtain ⟨p, q, hA, hV, hpq, hfz, hnd⟩ := hW
  refine ⟨ds, [], before, [], p, [], ⟨p, q, hA, hV, hpq, hfz, hnd⟩, ?_, ?_, ?_, hb.frame _, fun h => by cases h⟩
  · rw [hfn, hres, hsz]
    exact trodAll_mk1 (shut_bool hT _)
  · rw [hfn]
    exact trodAll_below hl hb _ _ _ _ hr hA
  · rw [hfn, hv]
    rfl
end Go.Proofs.Ytkfblapfphnggaa
