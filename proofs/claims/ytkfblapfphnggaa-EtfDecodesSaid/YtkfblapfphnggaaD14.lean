/- Several texts in one. -/
import Derived.Test.YtkfblapfphnggaaD11
import Derived.Test.YtkfblapfphnggaaD05
import Derived.Test.YtkfblapfphnggaaD09
/- The writer's part: lists. -/
namespace Go.Proofs.Ytkfblapfphnggaa
open Go.RowKit
set_option maxRecDepth 100000
attribute [local go_sem] run_store_complex

theorem putName_len (names : List ByteArray) (s : ByteArray) : (atomB names s).2.length ≤ names.length + 1 := by
  unfold atomB
  split
  · simp
  · simp
theorem headB_names (h : Hd) (n : Nat) (names : List ByteArray) : (headB h n names).2.length ≤ names.length + 1 := by
  have a := putName_len names h.s
  unfold headB
  repeat' split
  all_goals (first | exact a | (simp only; omega))
mutual
theorem encT_names : ∀ (t : Tm) (names : List ByteArray), (encT t names).2.length ≤ names.length + sizeT t
  | .mk h l, names => by
    have a := headB_names h l.length names
    have b := encTs_names l (headB h l.length names).2
    simp only [encT, sizeT]
    omega
theorem encTs_names : ∀ (l : List Tm) (names : List ByteArray), (encTs l names).2.length ≤ names.length + sizeTs l
  | [], names => by simp [encTs]
  | t :: l, names => by
    have a := encT_names t names
    have b := encTs_names l (encT t names).2
    simp only [encTs, sizeTs]
    omega
end
theorem encTs_len44 {r : Nat} : ∀ {l : List Tm}, (∀ t ∈ l, GoodT r t) → ∀ (i : Nat) (names : List ByteArray), (encTs (l.take i) names).1.length ≤ 44 * sizeTs (l.take i)
  | [], _, i, names => by simp [encTs, sizeTs]
  | t :: l, _, 0, names => by simp [encTs, sizeTs]
  | t :: l, h, i + 1, names => by
    have a := encT_len r t (h t (by simp)) names
    have b := encTs_len44 (l := l) (fun x hx => h x (by simp [hx])) i (encT t names).2
    simp only [List.take_succ_cons, encTs, sizeTs, List.length_append]
    omega
set_option maxHeartbeats 4000000 in
theorem wp6 (B Wb p m : Nat) (v : Value) (a : Option Addr) (c : Nat) (out : List UInt8) (names : List ByteArray) (F : Nat → Prop) (l : List Tm) (vs : List (Array Value)) (la : Option Addr) (lc : Nat) (w : World) (h : WrAt B Wb p m v a c out names w) (hlen : out.length + (44 * sizeTs l + 240) ≤ 1000000000) (hF : ∀ b, F b → b < B) (hrow : Row w F 31 9 (.slice la l.length lc) l.length (cat vs)) (hreps : Reps w F l vs) (hl : l.length ≤ 256) (hnm : names.length + sizeTs l ≤ 4096) (r : Nat) (hgd : ∀ t ∈ l, GoodT r t)
    (hsub : ∀ t ∈ l, ∀ (v : Value) (a : Option Addr) (c : Nat) (out : List UInt8) (names : List ByteArray) (cs : Array Value) (w : World), WrAt B Wb p m v a c out names w → Rep w F t cs → names.length + sizeT t ≤ 4096 → out.length + 44 * sizeT t + 200 ≤ 1000000000 →
      Calls Try.prog 23 #[.pointer (some ⟨Wb, 0, none⟩), .agg cs] w (WrPost B Wb p m v a c out w (out ++ (encT t names).1) (encT t names).2)) :
    Calls Try.prog 23 #[.pointer (some ⟨Wb, 0, none⟩), .agg #[.int .i64 6, .int .i64 0, .complex .f64 0 0, .string ⟨#[]⟩, .int .i64 0, .int .u32 0, .int .u64 0, nilV, .slice la l.length lc]] w (WrPost B Wb p m v a c out w (out ++ (UInt8.ofNat 6 :: (wideB l.length ++ (encTs l names).1))) (encTs l names).2) := by
  have HF := Lib.hid hF
  have HR := Lib.hid hrow
  have HRp := Lib.hid hreps
  have HNm := Lib.hid hnm
  have HSub := Lib.hid hsub
  have HGd := Lib.hid hgd
  have HBv := Lib.hid h.bl
  have HFt := Lib.hid (fun b (e : wfoot Wb p m v a out.length c b) => (h.foot b e).1)
  clear hF hrow hreps hnm hsub hgd
  have HL1 := Lib.hid hlen
  obtain ⟨i0, hi, hz0, hz1, hz2⟩ := info_parts infoU8
  have X1 := Lib.hid hi
  have X2 := Lib.hid hz0
  have X3 := Lib.hid hz1
  have X4 := Lib.hid hz2
  have HX0 := Lib.hid (heap_new w (.cells #[.int .i64 6, .int .i64 0, .complex .f64 0 0, .string ⟨#[]⟩, .int .i64 0, .int .u32 0, .int .u64 0, nilV, .slice la l.length lc] 31))
  have HSa := Lib.hid (h.stay ((Below.refl _ w).alloc (Nat.le_refl _) (.cells #[.int .i64 6, .int .i64 0, .complex .f64 0 0, .string ⟨#[]⟩, .int .i64 0, .int .u32 0, .int .u64 0, nilV, .slice la l.length lc] 31)))
  have HNf := Lib.hid (show ¬ wfoot Wb p m v a out.length c w.heap.size from fun e => by have := (h.foot _ e).2; omega)
  have HBl := Lib.hid (show w.heap.size < (w.alloc (.cells #[.int .i64 6, .int .i64 0, .complex .f64 0 0, .string ⟨#[]⟩, .int .i64 0, .int .u32 0, .int .u64 0, nilV, .slice la l.length lc] 31)).heap.size by simp)
  have HBw := Lib.hid h.bl
  clear h hi hz0 hz1 hz2 hlen
  go_enter Try.func23, Try.ntmps23
  go_wp2_with fail
  obtain ⟨b0, hb0⟩ : ∃ b, w.heap.size = b := ⟨_, rfl⟩
  rw [hb0] at HNf HBl HX0 ⊢
  have HB0 := Lib.hid hb0
  clear hb0
  generalize w.alloc (.cells #[.int .i64 6, .int .i64 0, .complex .f64 0 0, .string ⟨#[]⟩, .int .i64 0, .int .u32 0, .int .u64 0, nilV, .slice la l.length lc] 31) = w1 at *
  have HS1 := Lib.hid (HSa.out.wr.stay (Below.refl _ w1))
  have HX1 := Lib.hid ((HS1.out.keep HBl.out HNf.out).trans HX0.out)
  obtain ⟨k0, k1, k2, k3, k4, k5, k6, k7, k8⟩ := NineAt.of_block HX1.out
  have wc0 := HS1.out.wr.c0
  have wc1 := HS1.out.wr.c1
  have wf0 := HS1.out.wr.fz 0
  have hwl := HS1.out.wr.wl
  have hbn : ¬ b0 = Wb := fun e => HNf.out (.inl e)
  have HM1 := Lib.hid (show out.length + 1 ≤ maxLen by have := HL1.out; unfold maxLen; omega)
  have HM2 := Lib.hid (show (out.length + 1) * 1 ≤ 140737488355328 by have := HL1.out; omega)
  have HM3 : Hid (B ≤ (w1.drew.alloc (.cells #[.int .u8 6] 5)).heap.size) := Lib.hid (by have := HS1.out.wr.bl; simp; omega)
  obtain ⟨o2, hO2⟩ : ∃ x, out ++ [UInt8.ofNat 6] = x := ⟨_, rfl⟩
  have HL2 := Lib.hid (show o2.length + (44 * sizeTs l + 230) ≤ 1000000000 by rw [← hO2, List.length_append, show ([UInt8.ofNat 6] : List UInt8).length = 1 from (rfl)]; have := HL1.out; omega)
  have HO2 := Lib.hid hO2
  clear hO2
  go_cut [3] from 9 to 20 (fun t3 wx => t3 = .pointer (some ⟨b0, 0, none⟩) ∧ ∃ (v' : Value) (a' : Option Addr) (c' : Nat), WrStep B Wb p m v a c out w1 v' a' c' o2 names wx)
  case first =>
    go_region_law (first
      | (refine step_app (by rfl) (.tmp 13) (.tmp 17) 22 22 (by rfl) B 5 i0 (.int .u8 0) 1 1 Try.underlying22 X1.out X2.out X3.out X4.out rfl (by decide) (.slice a out.length c) out.length (out.map cellB) (by rfl) (HS1.out.wr.row.drew.alloc _) (.slice (some ⟨w1.heap.size, 0, none⟩) 1 1) 1 [.int .u8 6] (by rfl) (src_one w1.drew Try.underlying22 _ _ rfl) HM1.out HM2.out HM3.out ?_; intro a4 c4 wz ho4 hg4 hl4; have HA := Lib.hid (HS1.out.wr.app (W0 := (w1.drew.alloc (.cells #[.int .u8 6] 5))) ((Below.refl _ w1).drew.alloc (Nat.le_refl _) _) (news := [UInt8.ofNat 6]) (k := 1) (rfl) hg4 (by rw [cell1 (x := 6) (by decide) rfl]; exact ho4) hl4); have hK := HS1.out.wr.kept (W0 := (w1.drew.alloc (.cells #[.int .u8 6] 5))) ((Below.refl _ w1).drew.alloc (Nat.le_refl _) _) hg4; obtain ⟨y4, z4⟩ := hK; clear ho4 hg4 hl4))
    all_goals
      go_wp2_with fail
      go_meet
      exact ⟨rfl, _, _, _, by rw [← HO2.out]; exact HS1.out.trans HA.out⟩
  clear k0 k1 k2 k3 k4 k5 k6 k7 k8 wc0 wc1 wf0 hwl hbn
  obtain ⟨rfl, v2, a2, c2, hs⟩ := hcut
  have HS2 := Lib.hid hs
  clear hs HM1 HM2 HM3
  obtain ⟨w2, rfl⟩ : ∃ x, x = wc := ⟨_, rfl⟩
  have HX2 := Lib.hid ((HS2.out.keep HBl.out HNf.out).trans HX0.out)
  obtain ⟨k0, k1, k2, k3, k4, k5, k6, k7, k8⟩ := NineAt.of_block HX2.out
  have wc0 := HS2.out.wr.c0
  have wc1 := HS2.out.wr.c1
  have wf0 := HS2.out.wr.fz 0
  have hwl := HS2.out.wr.wl
  have hbn : ¬ b0 = Wb := fun e => HNf.out (.inl e)
  have hnw : IntKind.u64.wrap (l.length : Int) = l.length := wrap_u64_nat _ (by omega)
  go_wp2_with fail
  clear k0 k1 k2 k3 k4 k5 k6 k7 k8 wc0 wc1 wf0 hwl hbn
  refine (wwide_any B Wb p m v2 a2 c2 o2 names l.length (by omega) w2 HS2.out.wr (by have := HL2.out; omega)).mono ?_
  rintro e w3 ⟨rfl, v3, a3, c3, hs⟩
  have HS3 := Lib.hid (HS2.out.trans hs)
  clear hs
  obtain ⟨o3, hO3⟩ : ∃ x, o2 ++ wideB l.length = x := ⟨_, rfl⟩
  have HL3 := Lib.hid (show o3.length + (44 * sizeTs l + 215) ≤ 1000000000 by rw [← hO3, List.length_append]; have := HL2.out; have := wideB_len l.length; omega)
  rw [hO3] at HS3
  have HO3 := Lib.hid hO3
  clear hO3
  clear hnw
  have HX3 := Lib.hid ((HS3.out.keep HBl.out HNf.out).trans HX0.out)
  obtain ⟨k0, k1, k2, k3, k4, k5, k6, k7, k8⟩ := NineAt.of_block HX3.out
  have wc0 := HS3.out.wr.c0
  have wc1 := HS3.out.wr.c1
  have wf0 := HS3.out.wr.fz 0
  have hwl := HS3.out.wr.wl
  have hbn : ¬ b0 = Wb := fun e => HNf.out (.inl e)
  go_wp2_with fail
  clear k0 k1 k2 k3 k4 k5 k6 k7 k8 wc0 wc1 wf0 hwl hbn HX3
  have HSw := Lib.hid (fun b (e : wfoot Wb p m v a out.length c b) => HFt.out b e)
  have hB1 : Hid (∀ b, F b → b < w.heap.size → w1.heap[b]? = w.heap[b]?) := Lib.hid (fun b e _ => (WrStep.below HSa.out.wr (HS1.out)).block b (HF.out b e) |>.trans (HSa.out.turn.block b (by have := HF.out b e; have := HBv.out; omega) (fun e2 => by have := (HSw.out b e2); have := HF.out b e; omega)))
  go_loopw [134] (fun t134 wr => ∃ (i : Nat) (v' : Value) (a' : Option Addr) (c' : Nat), i ≤ l.length ∧ t134 = .int .i64 i ∧ WrStep B Wb p m v a c out w1 v' a' c' (o3 ++ (encTs (l.take i) names).1) (encTs (l.take i) names).2 wr) (fun t134 _ => l.length - (intOf t134).toNat)
  case atStart => exact ⟨0, v3, a3, c3, Nat.zero_le _, rfl, by simpa [encTs] using HS3.out⟩
  case round =>
    obtain ⟨i, v4, a4, c4, hi, rfl, hS⟩ := hrel
    have HS4 := Lib.hid hS
    clear hS
    by_cases hlt : i < l.length
    · obtain ⟨g, cap, hv, hg, hd2, bv2, pv2, hrep2, ⟨l2, hl2⟩, h9⟩ := HR.out.nine HRp.out hlt
      have hgB := HF.out g hg
      have hBr := Lib.hid (WrStep.below HSa.out.wr HS4.out)
      cases hv
      have hkeep : ∀ b, F b → b < w.heap.size → wr.heap[b]? = w.heap[b]? := fun b e hb => (hBr.out.block b (HF.out b e)).trans (hB1.out b e hb)
      have h9' := h9.block (hkeep g hg (by have := HBv.out; omega))
      have HRep := Lib.hid (Rep.keep hkeep _ _ hrep2)
      obtain ⟨n0, n1, n2, n3, n4, n5, n6, n7, n8⟩ := h9'
      obtain ⟨hk2, hn2, hre2, him2, hs2, hnode2, hboot2, hidn2, hb2⟩ := hd2
      obtain ⟨ba2, bn2, bc2, rfl⟩ : ∃ a n c, bv2 = .slice a n c := by
        obtain ⟨bv3, pv3, e, hb3, _⟩ := hl2 ▸ hrep2
        cases e
        obtain ⟨a, c, e⟩ := row_slice hb3.1
        exact ⟨a, _, c, e⟩
      obtain ⟨pa2, pn2, pc2, rfl⟩ : ∃ a n c, pv2 = .slice a n c := by
        obtain ⟨bv3, pv3, e, _, vs2, hb3, _⟩ := hl2 ▸ hrep2
        cases e
        obtain ⟨a, c, e⟩ := row_slice hb3.1
        exact ⟨a, _, c, e⟩
      have hi1 : (i : Int) < (l.length : Int) := by omega
      have hi0 : (0 : Int) ≤ (i : Int) := by omega
      have HNi := Lib.hid (encTs_names (l.take i) names)
      have HZ1 := Lib.hid (sizeTs_take hlt)
      have HZ2 := Lib.hid (sizeTs_le (l := l) (i + 1))
      have HLi := Lib.hid (encTs_len44 HGd.out i names)
      have HMem := Lib.hid (List.getElem_mem hlt)
      have H1 := HSub.out l[i] HMem.out v4 a4 c4 (o3 ++ (encTs (l.take i) names).1) (encTs (l.take i) names).2 _ (wr.alloc (.cells (hdC ⟨hk2, hn2, hre2, him2, hs2, hnode2, hboot2, hidn2, hb2⟩ (.slice ba2 bn2 bc2) (.slice pa2 pn2 pc2)) 31)) (HS4.out.wr.below ((Below.refl _ wr).alloc (Nat.le_refl _) _)) (Rep.keep (fun b _ hb => ((Below.refl _ wr).alloc (Nat.le_refl _) _).block b hb) _ _ HRep.out) (by have := HNi.out; have := HZ1.out; have := HZ2.out; have := HNm.out; omega) (by rw [List.length_append]; have := HLi.out; have := HZ1.out; have := HZ2.out; have := HL3.out; omega)
      have H1 := Lib.hid H1
      clear h9 hkeep hrep2 hl2 hg hgB HR
      go_wp2_with fail
      clear n0 n1 n2 n3 n4 n5 n6 n7 n8
      refine H1.out.mono ?_
      rintro e w5 ⟨rfl, v5, a5, c5, hs⟩
      have HS5 := Lib.hid ((HS4.out.trans (HS4.out.wr.stay ((Below.refl _ wr).alloc (Nat.le_refl _) (.cells (hdC ⟨hk2, hn2, hre2, him2, hs2, hnode2, hboot2, hidn2, hb2⟩ (.slice ba2 bn2 bc2) (.slice pa2 pn2 pc2)) 31)))).trans hs)
      clear hs H1
      go_wp2_with fail
      go_round
      case rel => exact ⟨i + 1, v5, a5, c5, by omega, by go_num, by rw [encTs_take hlt]; simp only; rw [← List.append_assoc]; exact HS5.out⟩
      case measure => simp [intOf]; omega
    · obtain rfl : i = l.length := by omega
      have hd1 : decide (l.length < l.length) = false := decide_eq_false (by omega)
      go_wp2_with fail
      go_end0
      have hS := HS4.out
      rw [List.take_length] at hS
      exact ⟨rfl, v4, a4, c4, by rw [show out ++ (UInt8.ofNat 6 :: (wideB l.length ++ (encTs l names).1)) = o3 ++ (encTs l names).1 by rw [← HO3.out, ← HO2.out]; simp]; exact HSa.out.trans hS⟩
set_option maxHeartbeats 4000000 in
theorem wp7 (B Wb p m : Nat) (v : Value) (a : Option Addr) (c : Nat) (out : List UInt8) (names : List ByteArray) (F : Nat → Prop) (l : List Tm) (vs : List (Array Value)) (la : Option Addr) (lc : Nat) (w : World) (h : WrAt B Wb p m v a c out names w) (hlen : out.length + (44 * sizeTs l + 240) ≤ 1000000000) (hF : ∀ b, F b → b < B) (hrow : Row w F 31 9 (.slice la l.length lc) l.length (cat vs)) (hreps : Reps w F l vs) (hl : l.length ≤ 256) (hnm : names.length + sizeTs l ≤ 4096) (r : Nat) (hgd : ∀ t ∈ l, GoodT r t)
    (hsub : ∀ t ∈ l, ∀ (v : Value) (a : Option Addr) (c : Nat) (out : List UInt8) (names : List ByteArray) (cs : Array Value) (w : World), WrAt B Wb p m v a c out names w → Rep w F t cs → names.length + sizeT t ≤ 4096 → out.length + 44 * sizeT t + 200 ≤ 1000000000 →
      Calls Try.prog 23 #[.pointer (some ⟨Wb, 0, none⟩), .agg cs] w (WrPost B Wb p m v a c out w (out ++ (encT t names).1) (encT t names).2)) :
    Calls Try.prog 23 #[.pointer (some ⟨Wb, 0, none⟩), .agg #[.int .i64 7, .int .i64 0, .complex .f64 0 0, .string ⟨#[]⟩, .int .i64 0, .int .u32 0, .int .u64 0, nilV, .slice la l.length lc]] w (WrPost B Wb p m v a c out w (out ++ (UInt8.ofNat 7 :: (wideB l.length ++ (encTs l names).1))) (encTs l names).2) := by
  have HF := Lib.hid hF
  have HR := Lib.hid hrow
  have HRp := Lib.hid hreps
  have HNm := Lib.hid hnm
  have HSub := Lib.hid hsub
  have HGd := Lib.hid hgd
  have HBv := Lib.hid h.bl
  have HFt := Lib.hid (fun b (e : wfoot Wb p m v a out.length c b) => (h.foot b e).1)
  clear hF hrow hreps hnm hsub hgd
  have HL1 := Lib.hid hlen
  obtain ⟨i0, hi, hz0, hz1, hz2⟩ := info_parts infoU8
  have X1 := Lib.hid hi
  have X2 := Lib.hid hz0
  have X3 := Lib.hid hz1
  have X4 := Lib.hid hz2
  have HX0 := Lib.hid (heap_new w (.cells #[.int .i64 7, .int .i64 0, .complex .f64 0 0, .string ⟨#[]⟩, .int .i64 0, .int .u32 0, .int .u64 0, nilV, .slice la l.length lc] 31))
  have HSa := Lib.hid (h.stay ((Below.refl _ w).alloc (Nat.le_refl _) (.cells #[.int .i64 7, .int .i64 0, .complex .f64 0 0, .string ⟨#[]⟩, .int .i64 0, .int .u32 0, .int .u64 0, nilV, .slice la l.length lc] 31)))
  have HNf := Lib.hid (show ¬ wfoot Wb p m v a out.length c w.heap.size from fun e => by have := (h.foot _ e).2; omega)
  have HBl := Lib.hid (show w.heap.size < (w.alloc (.cells #[.int .i64 7, .int .i64 0, .complex .f64 0 0, .string ⟨#[]⟩, .int .i64 0, .int .u32 0, .int .u64 0, nilV, .slice la l.length lc] 31)).heap.size by simp)
  have HBw := Lib.hid h.bl
  clear h hi hz0 hz1 hz2 hlen
  go_enter Try.func23, Try.ntmps23
  go_wp2_with fail
  obtain ⟨b0, hb0⟩ : ∃ b, w.heap.size = b := ⟨_, rfl⟩
  rw [hb0] at HNf HBl HX0 ⊢
  have HB0 := Lib.hid hb0
  clear hb0
  generalize w.alloc (.cells #[.int .i64 7, .int .i64 0, .complex .f64 0 0, .string ⟨#[]⟩, .int .i64 0, .int .u32 0, .int .u64 0, nilV, .slice la l.length lc] 31) = w1 at *
  have HS1 := Lib.hid (HSa.out.wr.stay (Below.refl _ w1))
  have HX1 := Lib.hid ((HS1.out.keep HBl.out HNf.out).trans HX0.out)
  obtain ⟨k0, k1, k2, k3, k4, k5, k6, k7, k8⟩ := NineAt.of_block HX1.out
  have wc0 := HS1.out.wr.c0
  have wc1 := HS1.out.wr.c1
  have wf0 := HS1.out.wr.fz 0
  have hwl := HS1.out.wr.wl
  have hbn : ¬ b0 = Wb := fun e => HNf.out (.inl e)
  have HM1 := Lib.hid (show out.length + 1 ≤ maxLen by have := HL1.out; unfold maxLen; omega)
  have HM2 := Lib.hid (show (out.length + 1) * 1 ≤ 140737488355328 by have := HL1.out; omega)
  have HM3 : Hid (B ≤ (w1.drew.alloc (.cells #[.int .u8 7] 5)).heap.size) := Lib.hid (by have := HS1.out.wr.bl; simp; omega)
  obtain ⟨o2, hO2⟩ : ∃ x, out ++ [UInt8.ofNat 7] = x := ⟨_, rfl⟩
  have HL2 := Lib.hid (show o2.length + (44 * sizeTs l + 230) ≤ 1000000000 by rw [← hO2, List.length_append, show ([UInt8.ofNat 7] : List UInt8).length = 1 from (rfl)]; have := HL1.out; omega)
  have HO2 := Lib.hid hO2
  clear hO2
  go_cut [3] from 9 to 20 (fun t3 wx => t3 = .pointer (some ⟨b0, 0, none⟩) ∧ ∃ (v' : Value) (a' : Option Addr) (c' : Nat), WrStep B Wb p m v a c out w1 v' a' c' o2 names wx)
  case first =>
    go_region_law (first
      | (refine step_app (by rfl) (.tmp 13) (.tmp 17) 22 22 (by rfl) B 5 i0 (.int .u8 0) 1 1 Try.underlying22 X1.out X2.out X3.out X4.out rfl (by decide) (.slice a out.length c) out.length (out.map cellB) (by rfl) (HS1.out.wr.row.drew.alloc _) (.slice (some ⟨w1.heap.size, 0, none⟩) 1 1) 1 [.int .u8 7] (by rfl) (src_one w1.drew Try.underlying22 _ _ rfl) HM1.out HM2.out HM3.out ?_; intro a4 c4 wz ho4 hg4 hl4; have HA := Lib.hid (HS1.out.wr.app (W0 := (w1.drew.alloc (.cells #[.int .u8 7] 5))) ((Below.refl _ w1).drew.alloc (Nat.le_refl _) _) (news := [UInt8.ofNat 7]) (k := 1) (rfl) hg4 (by rw [cell1 (x := 7) (by decide) rfl]; exact ho4) hl4); have hK := HS1.out.wr.kept (W0 := (w1.drew.alloc (.cells #[.int .u8 7] 5))) ((Below.refl _ w1).drew.alloc (Nat.le_refl _) _) hg4; obtain ⟨y4, z4⟩ := hK; clear ho4 hg4 hl4))
    all_goals
      go_wp2_with fail
      go_meet
      exact ⟨rfl, _, _, _, by rw [← HO2.out]; exact HS1.out.trans HA.out⟩
  clear k0 k1 k2 k3 k4 k5 k6 k7 k8 wc0 wc1 wf0 hwl hbn
  obtain ⟨rfl, v2, a2, c2, hs⟩ := hcut
  have HS2 := Lib.hid hs
  clear hs HM1 HM2 HM3
  obtain ⟨w2, rfl⟩ : ∃ x, x = wc := ⟨_, rfl⟩
  have HX2 := Lib.hid ((HS2.out.keep HBl.out HNf.out).trans HX0.out)
  obtain ⟨k0, k1, k2, k3, k4, k5, k6, k7, k8⟩ := NineAt.of_block HX2.out
  have wc0 := HS2.out.wr.c0
  have wc1 := HS2.out.wr.c1
  have wf0 := HS2.out.wr.fz 0
  have hwl := HS2.out.wr.wl
  have hbn : ¬ b0 = Wb := fun e => HNf.out (.inl e)
  have hnw : IntKind.u64.wrap (l.length : Int) = l.length := wrap_u64_nat _ (by omega)
  go_wp2_with fail
  clear k0 k1 k2 k3 k4 k5 k6 k7 k8 wc0 wc1 wf0 hwl hbn
  refine (wwide_any B Wb p m v2 a2 c2 o2 names l.length (by omega) w2 HS2.out.wr (by have := HL2.out; omega)).mono ?_
  rintro e w3 ⟨rfl, v3, a3, c3, hs⟩
  have HS3 := Lib.hid (HS2.out.trans hs)
  clear hs
  obtain ⟨o3, hO3⟩ : ∃ x, o2 ++ wideB l.length = x := ⟨_, rfl⟩
  have HL3 := Lib.hid (show o3.length + (44 * sizeTs l + 215) ≤ 1000000000 by rw [← hO3, List.length_append]; have := HL2.out; have := wideB_len l.length; omega)
  rw [hO3] at HS3
  have HO3 := Lib.hid hO3
  clear hO3
  clear hnw
  have HX3 := Lib.hid ((HS3.out.keep HBl.out HNf.out).trans HX0.out)
  obtain ⟨k0, k1, k2, k3, k4, k5, k6, k7, k8⟩ := NineAt.of_block HX3.out
  have wc0 := HS3.out.wr.c0
  have wc1 := HS3.out.wr.c1
  have wf0 := HS3.out.wr.fz 0
  have hwl := HS3.out.wr.wl
  have hbn : ¬ b0 = Wb := fun e => HNf.out (.inl e)
  go_wp2_with fail
  clear k0 k1 k2 k3 k4 k5 k6 k7 k8 wc0 wc1 wf0 hwl hbn HX3
  have HSw := Lib.hid (fun b (e : wfoot Wb p m v a out.length c b) => HFt.out b e)
  have hB1 : Hid (∀ b, F b → b < w.heap.size → w1.heap[b]? = w.heap[b]?) := Lib.hid (fun b e _ => (WrStep.below HSa.out.wr (HS1.out)).block b (HF.out b e) |>.trans (HSa.out.turn.block b (by have := HF.out b e; have := HBv.out; omega) (fun e2 => by have := (HSw.out b e2); have := HF.out b e; omega)))
  go_loopw [134] (fun t134 wr => ∃ (i : Nat) (v' : Value) (a' : Option Addr) (c' : Nat), i ≤ l.length ∧ t134 = .int .i64 i ∧ WrStep B Wb p m v a c out w1 v' a' c' (o3 ++ (encTs (l.take i) names).1) (encTs (l.take i) names).2 wr) (fun t134 _ => l.length - (intOf t134).toNat)
  case atStart => exact ⟨0, v3, a3, c3, Nat.zero_le _, rfl, by simpa [encTs] using HS3.out⟩
  case round =>
    obtain ⟨i, v4, a4, c4, hi, rfl, hS⟩ := hrel
    have HS4 := Lib.hid hS
    clear hS
    by_cases hlt : i < l.length
    · obtain ⟨g, cap, hv, hg, hd2, bv2, pv2, hrep2, ⟨l2, hl2⟩, h9⟩ := HR.out.nine HRp.out hlt
      have hgB := HF.out g hg
      have hBr := Lib.hid (WrStep.below HSa.out.wr HS4.out)
      cases hv
      have hkeep : ∀ b, F b → b < w.heap.size → wr.heap[b]? = w.heap[b]? := fun b e hb => (hBr.out.block b (HF.out b e)).trans (hB1.out b e hb)
      have h9' := h9.block (hkeep g hg (by have := HBv.out; omega))
      have HRep := Lib.hid (Rep.keep hkeep _ _ hrep2)
      obtain ⟨n0, n1, n2, n3, n4, n5, n6, n7, n8⟩ := h9'
      obtain ⟨hk2, hn2, hre2, him2, hs2, hnode2, hboot2, hidn2, hb2⟩ := hd2
      obtain ⟨ba2, bn2, bc2, rfl⟩ : ∃ a n c, bv2 = .slice a n c := by
        obtain ⟨bv3, pv3, e, hb3, _⟩ := hl2 ▸ hrep2
        cases e
        obtain ⟨a, c, e⟩ := row_slice hb3.1
        exact ⟨a, _, c, e⟩
      obtain ⟨pa2, pn2, pc2, rfl⟩ : ∃ a n c, pv2 = .slice a n c := by
        obtain ⟨bv3, pv3, e, _, vs2, hb3, _⟩ := hl2 ▸ hrep2
        cases e
        obtain ⟨a, c, e⟩ := row_slice hb3.1
        exact ⟨a, _, c, e⟩
      have hi1 : (i : Int) < (l.length : Int) := by omega
      have hi0 : (0 : Int) ≤ (i : Int) := by omega
      have HNi := Lib.hid (encTs_names (l.take i) names)
      have HZ1 := Lib.hid (sizeTs_take hlt)
      have HZ2 := Lib.hid (sizeTs_le (l := l) (i + 1))
      have HLi := Lib.hid (encTs_len44 HGd.out i names)
      have HMem := Lib.hid (List.getElem_mem hlt)
      have H1 := HSub.out l[i] HMem.out v4 a4 c4 (o3 ++ (encTs (l.take i) names).1) (encTs (l.take i) names).2 _ (wr.alloc (.cells (hdC ⟨hk2, hn2, hre2, him2, hs2, hnode2, hboot2, hidn2, hb2⟩ (.slice ba2 bn2 bc2) (.slice pa2 pn2 pc2)) 31)) (HS4.out.wr.below ((Below.refl _ wr).alloc (Nat.le_refl _) _)) (Rep.keep (fun b _ hb => ((Below.refl _ wr).alloc (Nat.le_refl _) _).block b hb) _ _ HRep.out) (by have := HNi.out; have := HZ1.out; have := HZ2.out; have := HNm.out; omega) (by rw [List.length_append]; have := HLi.out; have := HZ1.out; have := HZ2.out; have := HL3.out; omega)
      have H1 := Lib.hid H1
      clear h9 hkeep hrep2 hl2 hg hgB HR
      go_wp2_with fail
      clear n0 n1 n2 n3 n4 n5 n6 n7 n8
      refine H1.out.mono ?_
      rintro e w5 ⟨rfl, v5, a5, c5, hs⟩
      have HS5 := Lib.hid ((HS4.out.trans (HS4.out.wr.stay ((Below.refl _ wr).alloc (Nat.le_refl _) (.cells (hdC ⟨hk2, hn2, hre2, him2, hs2, hnode2, hboot2, hidn2, hb2⟩ (.slice ba2 bn2 bc2) (.slice pa2 pn2 pc2)) 31)))).trans hs)
      clear hs H1
      go_wp2_with fail
      go_round
      case rel => exact ⟨i + 1, v5, a5, c5, by omega, by go_num, by rw [encTs_take hlt]; simp only; rw [← List.append_assoc]; exact HS5.out⟩
      case measure => simp [intOf]; omega
    · obtain rfl : i = l.length := by omega
      have hd1 : decide (l.length < l.length) = false := decide_eq_false (by omega)
      go_wp2_with fail
      go_end0
      have hS := HS4.out
      rw [List.take_length] at hS
      exact ⟨rfl, v4, a4, c4, by rw [show out ++ (UInt8.ofNat 7 :: (wideB l.length ++ (encTs l names).1)) = o3 ++ (encTs l names).1 by rw [← HO3.out, ← HO2.out]; simp]; exact HSa.out.trans hS⟩
end Go.Proofs.Ytkfblapfphnggaa
/- The writer's part: bytes. -/
namespace Go.Proofs.Ytkfblapfphnggaa
open Go.RowKit
set_option maxRecDepth 100000
attribute [local go_sem] run_store_complex

set_option maxHeartbeats 4000000 in
theorem wp8 (B Wb p m : Nat) (v : Value) (a : Option Addr) (c : Nat) (out : List UInt8) (names : List ByteArray) (F : Nat → Prop) (b : List UInt8) (ba : Option Addr) (bc : Nat) (w : World) (h : WrAt B Wb p m v a c out names w) (hlen : out.length + (b.length + 100) ≤ 1000000000) (hF : ∀ b, F b → b < B) (hrow : Row w F 5 1 (.slice ba b.length bc) b.length (b.map cellB)) (hb4 : b.length ≤ 4096) :
    Calls Try.prog 23 #[.pointer (some ⟨Wb, 0, none⟩), .agg #[.int .i64 8, .int .i64 0, .complex .f64 0 0, .string ⟨#[]⟩, .int .i64 0, .int .u32 0, .int .u64 0, .slice ba b.length bc, nilV]] w (WrPost B Wb p m v a c out w (out ++ (UInt8.ofNat 8 :: (wideB b.length ++ b))) names) := by
  have HF := Lib.hid hF
  have HR := Lib.hid hrow
  have HW := Lib.hid h
  clear hF hrow
  have HL1 := Lib.hid hlen
  obtain ⟨i0, hi, hz0, hz1, hz2⟩ := info_parts infoU8
  have X1 := Lib.hid hi
  have X2 := Lib.hid hz0
  have X3 := Lib.hid hz1
  have X4 := Lib.hid hz2
  have HX0 := Lib.hid (heap_new w (.cells #[.int .i64 8, .int .i64 0, .complex .f64 0 0, .string ⟨#[]⟩, .int .i64 0, .int .u32 0, .int .u64 0, .slice ba b.length bc, nilV] 31))
  have HSa := Lib.hid (h.stay ((Below.refl _ w).alloc (Nat.le_refl _) (.cells #[.int .i64 8, .int .i64 0, .complex .f64 0 0, .string ⟨#[]⟩, .int .i64 0, .int .u32 0, .int .u64 0, .slice ba b.length bc, nilV] 31)))
  have HNf := Lib.hid (show ¬ wfoot Wb p m v a out.length c w.heap.size from fun e => by have := (h.foot _ e).2; omega)
  have HBl := Lib.hid (show w.heap.size < (w.alloc (.cells #[.int .i64 8, .int .i64 0, .complex .f64 0 0, .string ⟨#[]⟩, .int .i64 0, .int .u32 0, .int .u64 0, .slice ba b.length bc, nilV] 31)).heap.size by simp)
  have HBw := Lib.hid h.bl
  clear h hi hz0 hz1 hz2 hlen
  go_enter Try.func23, Try.ntmps23
  go_wp2_with fail
  obtain ⟨b0, hb0⟩ : ∃ b, w.heap.size = b := ⟨_, rfl⟩
  rw [hb0] at HNf HBl HX0 ⊢
  have HB0 := Lib.hid hb0
  clear hb0
  generalize w.alloc (.cells #[.int .i64 8, .int .i64 0, .complex .f64 0 0, .string ⟨#[]⟩, .int .i64 0, .int .u32 0, .int .u64 0, .slice ba b.length bc, nilV] 31) = w1 at *
  have HS1 := Lib.hid (HSa.out.wr.stay (Below.refl _ w1))
  have HX1 := Lib.hid ((HS1.out.keep HBl.out HNf.out).trans HX0.out)
  obtain ⟨k0, k1, k2, k3, k4, k5, k6, k7, k8⟩ := NineAt.of_block HX1.out
  have wc0 := HS1.out.wr.c0
  have wc1 := HS1.out.wr.c1
  have wf0 := HS1.out.wr.fz 0
  have hwl := HS1.out.wr.wl
  have hbn : ¬ b0 = Wb := fun e => HNf.out (.inl e)
  have HM1 := Lib.hid (show out.length + 1 ≤ maxLen by have := HL1.out; unfold maxLen; omega)
  have HM2 := Lib.hid (show (out.length + 1) * 1 ≤ 140737488355328 by have := HL1.out; omega)
  have HM3 : Hid (B ≤ (w1.drew.alloc (.cells #[.int .u8 8] 5)).heap.size) := Lib.hid (by have := HS1.out.wr.bl; simp; omega)
  obtain ⟨o2, hO2⟩ : ∃ x, out ++ [UInt8.ofNat 8] = x := ⟨_, rfl⟩
  have HL2 := Lib.hid (show o2.length + (b.length + 90) ≤ 1000000000 by rw [← hO2, List.length_append, show ([UInt8.ofNat 8] : List UInt8).length = 1 from (rfl)]; have := HL1.out; omega)
  have HO2 := Lib.hid hO2
  clear hO2
  go_cut [3] from 9 to 20 (fun t3 wx => t3 = .pointer (some ⟨b0, 0, none⟩) ∧ ∃ (v' : Value) (a' : Option Addr) (c' : Nat), WrStep B Wb p m v a c out w1 v' a' c' o2 names wx)
  case first =>
    go_region_law (first
      | (refine step_app (by rfl) (.tmp 13) (.tmp 17) 22 22 (by rfl) B 5 i0 (.int .u8 0) 1 1 Try.underlying22 X1.out X2.out X3.out X4.out rfl (by decide) (.slice a out.length c) out.length (out.map cellB) (by rfl) (HS1.out.wr.row.drew.alloc _) (.slice (some ⟨w1.heap.size, 0, none⟩) 1 1) 1 [.int .u8 8] (by rfl) (src_one w1.drew Try.underlying22 _ _ rfl) HM1.out HM2.out HM3.out ?_; intro a4 c4 wz ho4 hg4 hl4; have HA := Lib.hid (HS1.out.wr.app (W0 := (w1.drew.alloc (.cells #[.int .u8 8] 5))) ((Below.refl _ w1).drew.alloc (Nat.le_refl _) _) (news := [UInt8.ofNat 8]) (k := 1) (rfl) hg4 (by rw [cell1 (x := 8) (by decide) rfl]; exact ho4) hl4); have hK := HS1.out.wr.kept (W0 := (w1.drew.alloc (.cells #[.int .u8 8] 5))) ((Below.refl _ w1).drew.alloc (Nat.le_refl _) _) hg4; obtain ⟨y4, z4⟩ := hK; clear ho4 hg4 hl4))
    all_goals
      go_wp2_with fail
      go_meet
      exact ⟨rfl, _, _, _, by rw [← HO2.out]; exact HS1.out.trans HA.out⟩
  clear k0 k1 k2 k3 k4 k5 k6 k7 k8 wc0 wc1 wf0 hwl hbn
  obtain ⟨rfl, v2, a2, c2, hs⟩ := hcut
  have HS2 := Lib.hid hs
  clear hs HM1 HM2 HM3
  obtain ⟨w2, rfl⟩ : ∃ x, x = wc := ⟨_, rfl⟩
  have HX2 := Lib.hid ((HS2.out.keep HBl.out HNf.out).trans HX0.out)
  obtain ⟨k0, k1, k2, k3, k4, k5, k6, k7, k8⟩ := NineAt.of_block HX2.out
  have wc0 := HS2.out.wr.c0
  have wc1 := HS2.out.wr.c1
  have wf0 := HS2.out.wr.fz 0
  have hwl := HS2.out.wr.wl
  have hbn : ¬ b0 = Wb := fun e => HNf.out (.inl e)
  have hnw : IntKind.u64.wrap (b.length : Int) = b.length := wrap_u64_nat _ (by omega)
  go_wp2_with fail
  clear k0 k1 k2 k3 k4 k5 k6 k7 k8 wc0 wc1 wf0 hwl hbn
  refine (wwide_any B Wb p m v2 a2 c2 o2 names b.length (by omega) w2 HS2.out.wr (by have := HL2.out; omega)).mono ?_
  rintro e w3 ⟨rfl, v3, a3, c3, hs⟩
  have HS3 := Lib.hid (HS2.out.trans hs)
  clear hs
  obtain ⟨o3, hO3⟩ : ∃ x, o2 ++ wideB b.length = x := ⟨_, rfl⟩
  have HL3 := Lib.hid (show o3.length + (b.length + 50) ≤ 1000000000 by rw [← hO3, List.length_append]; have := HL2.out; have := wideB_len b.length; omega)
  rw [hO3] at HS3
  have HO3 := Lib.hid hO3
  clear hO3
  clear hnw
  go_upto_region 30 with fail
  have HSr := Lib.hid (src_owns (P := Try.prog) (tx := 22) Try.underlying22 (HR.out.keep (w' := w3) (fun b e _ => (WrStep.below HW.out (HSa.out.trans HS3.out)).block b (HF.out b e))).1.drew (fun u hu => by
    obtain ⟨x, _, rfl⟩ := List.mem_map.1 hu
    rfl))
  have HX3 := Lib.hid ((HS3.out.keep HBl.out HNf.out).trans HX0.out)
  obtain ⟨k0, k1, k2, k3, k4, k5, k6, k7, k8⟩ := NineAt.of_block HX3.out
  have wc0 := HS3.out.wr.c0
  have wc1 := HS3.out.wr.c1
  have wf0 := HS3.out.wr.fz 0
  have hwl := HS3.out.wr.wl
  have hbn : ¬ b0 = Wb := fun e => HNf.out (.inl e)
  have HM1 := Lib.hid (show o3.length + b.length ≤ maxLen by have := HL3.out; unfold maxLen; omega)
  have HM2 := Lib.hid (show (o3.length + b.length) * 1 ≤ 140737488355328 by have := HL3.out; omega)
  have HM3 : Hid (B ≤ w3.drew.heap.size) := Lib.hid (by have := HS3.out.wr.bl; simp; omega)
  obtain ⟨o4, hO4⟩ : ∃ x, o3 ++ b = x := ⟨_, rfl⟩
  have HL4 := Lib.hid (show o4.length + 10 ≤ 1000000000 by rw [← hO4, List.length_append, show (b : List UInt8).length = b.length from (rfl)]; have := HL3.out; omega)
  have HO4 := Lib.hid hO4
  clear hO4
  ·
    go_region_law (first
      | (refine step_app (by rfl) (.tmp 154) (.tmp 156) 22 22 (by rfl) B 5 i0 (.int .u8 0) 1 1 Try.underlying22 X1.out X2.out X3.out X4.out rfl (by decide) (.slice a3 o3.length c3) o3.length (o3.map cellB) (by rfl) HS3.out.wr.row.drew (.slice ba b.length bc) b.length (b.map cellB) (by rfl) HSr.out HM1.out HM2.out HM3.out ?_; intro a4 c4 wz ho4 hg4 hl4; have HA := Lib.hid (HS3.out.wr.app (W0 := w3.drew) (Below.refl _ w3).drew (news := b) (k := b.length) (rfl) hg4 (by skip; exact ho4) hl4); have hK := HS3.out.wr.kept (W0 := w3.drew) (Below.refl _ w3).drew hg4; obtain ⟨y4, z4⟩ := hK; clear ho4 hg4 hl4))
    all_goals
      try go_wp2_with fail
      have HSo := Lib.hid (HS3.out.trans HA.out)
      go_end0
      exact ⟨rfl, _, _, _, by rw [show out ++ (UInt8.ofNat 8 :: (wideB b.length ++ b)) = o3 ++ b by rw [← HO3.out, ← HO2.out]; simp]; exact HSa.out.trans HSo.out⟩
end Go.Proofs.Ytkfblapfphnggaa
