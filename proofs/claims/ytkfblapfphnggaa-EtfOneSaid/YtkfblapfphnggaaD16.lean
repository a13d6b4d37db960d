/- Several texts in one. -/
import Derived.Test.YtkfblapfphnggaaD15
import Derived.Test.YtkfblapfphnggaaD08
import Derived.Laws.Rows
/- Encode, at right terms. -/
namespace Go.Proofs.Ytkfblapfphnggaa
open Go.RowKit
set_option maxRecDepth 100000
attribute [local go_sem] run_store_complex

/-- HOW Encode ENDS -/
def EncPost (W : World) (bs : List UInt8) (e : Ending) (w' : World) : Prop :=
  (bs.length ≤ 131072 ∧ ∃ (a : Option Addr) (c : Nat), e = .returned (.tuple #[.slice a bs.length c, .int .i64 0]) ∧ w'.ownsRow W.heap.size 5 1 (.slice a bs.length c) bs.length (bs.map cellB) ∧ Below W.heap.size W w') ∨
  (131072 < bs.length ∧ e = .returned (.tuple #[nilV, .int .i64 70]) ∧ Below W.heap.size W w')
theorem rep_nine' {w : World} {F : Nat → Prop} {t : Tm} {c : Array Value} (h : Rep w F t c) : ∃ (q0 q1 : Int) (q2 q3 : Nat) (q4 : ByteArray) (q5 q6 q7 : Int) (q8 : Option Addr) (q9 q10 : Nat) (q11 : Option Addr) (q12 q13 : Nat),
    c = #[.int .i64 q0, .int .i64 q1, .complex .f64 q2 q3, .string q4, .int .i64 q5, .int .u32 q6, .int .u64 q7, .slice q8 q9 q10, .slice q11 q12 q13] := by
  obtain ⟨hd, l⟩ := t
  obtain ⟨bv, lv, rfl, hb, vs, hlv, _⟩ := h
  obtain ⟨a1, c1, rfl⟩ := row_slice hb.1
  obtain ⟨a2, c2, rfl⟩ := row_slice hlv.1
  exact ⟨_, _, _, _, _, _, _, _, _, _, _, _, _, _, rfl⟩
/-- a new writer -/
theorem wr_new {B : Nat} {w2 w4 : World} (hB : B ≤ w2.heap.size) (ht : Tab w4 (w2.heap.size + 1 + 1) (w2.heap.size + 1) (.slice none 0 0) []) (hb : Below (w2.heap.size + 1) (w2.alloc (.cells #[.int .u8 69] 5)) w4) :
    WrAt B w4.heap.size (w2.heap.size + 1 + 1) (w2.heap.size + 1) (.slice none 0 0) (some ⟨w2.heap.size, 0, none⟩) 1 [69] [] (w4.alloc (.cells #[.slice (some ⟨w2.heap.size, 0, none⟩) 1 1, .pointer (some ⟨w2.heap.size + 1 + 1, 0, none⟩)] 66)) := by
  have hs3 : (w2.alloc (.cells #[.int .u8 69] 5)).heap.size = w2.heap.size + 1 := by simp
  have hcell : (w2.alloc (.cells #[.int .u8 69] 5)).heap[w2.heap.size]? = some (.cells #[.int .u8 69] 5 (0, 0)) := heap_new w2 _
  have hlt := ht.lt
  have h4 := hb.size
  rw [hs3] at h4
  have hrow4 : w4.heap[w2.heap.size]? = some (.cells #[.int .u8 69] 5 (0, 0)) := (hb.block _ (by omega)).trans hcell
  have hrow5 := (Below.heap_alloc w4 (.cells #[.slice (some ⟨w2.heap.size, 0, none⟩) 1 1, .pointer (some ⟨w2.heap.size + 1 + 1, 0, none⟩)] 66) w2.heap.size (by omega)).trans hrow4
  refine ⟨heap_new w4 _, ⟨rfl, .inr ⟨w2.heap.size, 1, #[.int .u8 69], rfl, hB, hrow5, Nat.le_refl _, by decide, rfl, rfl⟩⟩, ht.below ((Below.refl _ w4).alloc (Nat.le_refl _) _), ?_, ?_, by omega, ?_⟩
  · intro b e
    have eb : w2.heap.size = b := by injection e
    subst eb
    refine ⟨by omega, ?_⟩
    rintro (e | e | e)
    · omega
    · omega
    · cases e
  · rintro (e | e | e)
    · omega
    · omega
    · cases e
  · rintro i (e | e | e)
    · omega
    · omega
    · cases e
set_option maxHeartbeats 2000000 in
theorem encode_good (t : Tm) (hg : GoodT 24 t) (hs : sizeT t ≤ 4096) (F : Nat → Prop) (cs : Array Value) (w : World) (hrep : Rep w F t cs) (hF : ∀ b, F b → b < w.heap.size) :
    Calls Try.prog 9 #[.agg cs] w (EncPost w (69 :: (encT t []).1)) := by
  have HF := Lib.hid hF
  have HG := Lib.hid hg
  have HSz := Lib.hid hs
  obtain ⟨q0, q1, q2, q3, q4, q5, q6, q7, q8, q9, q10, q11, q12, q13, rfl⟩ := rep_nine' hrep
  obtain ⟨C, hC⟩ : ∃ C : Array Value, #[Value.int .i64 q0, .int .i64 q1, .complex .f64 q2 q3, .string q4, .int .i64 q5, .int .u32 q6, .int .u64 q7, .slice q8 q9 q10, .slice q11 q12 q13] = C := ⟨_, rfl⟩
  have HR1 := Lib.hid (Rep.keep (fun b _ hb => ((Below.refl _ w).alloc (Nat.le_refl _) (.cells #[.int .i64 q0, .int .i64 q1, .complex .f64 q2 q3, .string q4, .int .i64 q5, .int .u32 q6, .int .u64 q7, .slice q8 q9 q10, .slice q11 q12 q13] 31)).block b hb) _ _ hrep)
  have HB1 := Lib.hid ((Below.refl w.heap.size w).alloc (Nat.le_refl _) (.cells #[.int .i64 q0, .int .i64 q1, .complex .f64 q2 q3, .string q4, .int .i64 q5, .int .u32 q6, .int .u64 q7, .slice q8 q9 q10, .slice q11 q12 q13] 31))
  have HX1 := Lib.hid (heap_new w (.cells #[.int .i64 q0, .int .i64 q1, .complex .f64 q2 q3, .string q4, .int .i64 q5, .int .u32 q6, .int .u64 q7, .slice q8 q9 q10, .slice q11 q12 q13] 31))
  clear hF hg hs hrep hC C
  go_enter Try.func9, Try.ntmps9
  go_wp2_with fail
  obtain ⟨b0, hb0⟩ : ∃ b, w.heap.size = b := ⟨_, rfl⟩
  rw [hb0] at HB1 HX1 ⊢
  have HN := Lib.hid hb0
  clear hb0
  generalize w.alloc (.cells #[.int .i64 q0, .int .i64 q1, .complex .f64 q2 q3, .string q4, .int .i64 q5, .int .u32 q6, .int .u64 q7, .slice q8 q9 q10, .slice q11 q12 q13] 31) = w1 at *
  have HL1 := Lib.hid (blk_lt HX1.out)
  refine (check_good t HG.out HSz.out F _ w1 HR1.out (fun b e => by have := HF.out b e; have := HN.out; have := HL1.out; omega)).mono ?_
  rintro e w2 ⟨rfl, hb2⟩
  have HX2 := Lib.hid ((hb2.block _ HL1.out).trans HX1.out)
  have HB2 := Lib.hid (HB1.out.trans (hb2.mono (Nat.le_of_lt HL1.out)))
  have HR2 := Lib.hid (Rep.keep (fun b _ hb => hb2.block b hb) _ _ HR1.out)
  clear hb2 HX1 HB1 HR1 HL1
  go_wp2_with fail
  refine (new_any _).mono ?_
  rintro e w4 ⟨rfl, ht, hb⟩
  have hs3 : (w2.alloc (.cells #[.int .u8 69] 5)).heap.size = w2.heap.size + 1 := by simp
  rw [hs3] at ht hb
  clear hs3
  have HW := Lib.hid (wr_new (B := b0) (Nat.le_of_lt (blk_lt HX2.out)) ht hb)
  have HB24 := Lib.hid (((Below.refl _ w2).alloc (Nat.le_refl _) (.cells #[.int .u8 69] 5)).trans (hb.mono (Nat.le_succ _)))
  clear ht hb
  have HB25 := Lib.hid (HB24.out.alloc HB24.out.size (.cells #[.slice (some ⟨w2.heap.size, 0, none⟩) 1 1, .pointer (some ⟨w2.heap.size + 1 + 1, 0, none⟩)] 66))
  have hx5 := (HB25.out.block _ (blk_lt HX2.out)).trans HX2.out
  have HB5 := Lib.hid (HB2.out.trans (HB25.out.mono (Nat.le_of_lt (blk_lt HX2.out))))
  have HR5 := Lib.hid (Rep.keep (fun b _ hb => HB25.out.block b hb) _ _ HR2.out)
  obtain ⟨k0, k1, k2, k3, k4, k5, k6, k7, k8⟩ := NineAt.of_block hx5
  clear hx5 HB24 HB25 HR2
  go_wp2_with fail
  clear k0 k1 k2 k3 k4 k5 k6 k7 k8
  generalize w4.alloc (.cells #[.slice (some ⟨w2.heap.size, 0, none⟩) 1 1, .pointer (some ⟨w2.heap.size + 1 + 1, 0, none⟩)] 66) = w5 at *
  generalize w4.heap.size = Wb at *
  refine (wpart_any b0 Wb (w2.heap.size + 1 + 1) (w2.heap.size + 1) 24 t HG.out F (fun b e => by have := HF.out b e; have := HN.out; omega) _ _ _ [69] [] _ w5 HW.out HR5.out (by have := HSz.out; simp; omega) (by have := HSz.out; simp; omega)).mono ?_
  rintro e w6 ⟨rfl, v6, a6, c6, hs6⟩
  have e6 : [69] ++ (encT t []).1 = 69 :: (encT t []).1 := rfl
  rw [e6] at hs6
  have HB6 := Lib.hid (HB5.out.trans (WrStep.below HW.out hs6))
  have HS6 := Lib.hid hs6.wr
  clear hs6 e6 HW HB5 HR5
  have hl6 : (encT t []).1.length ≤ 180224 := by have := encT_len 24 t HG.out []; have := HSz.out; omega
  generalize hbs : 69 :: (encT t []).1 = bs at *
  have hlb : bs.length ≤ 180225 := by rw [← hbs]; simp; omega
  have wc0 := HS6.out.c0
  clear hbs hl6
  by_cases hbig : 131072 < bs.length
  · have hbi : (131072 : Int) < (bs.length : Int) := by omega
    go_wp2_with fail
    go_ret2
    exact .inr ⟨hbig, rfl, HN.out ▸ HB6.out⟩
  · have hbi : ¬ (131072 : Int) < (bs.length : Int) := by omega
    have hd : decide ((131072 : Int) < (bs.length : Int)) = false := decide_eq_false hbi
    have hd2 : decide (131072 < bs.length) = false := decide_eq_false hbig
    go_wp2_with fail
    go_ret2
    exact .inl ⟨by omega, a6, c6, rfl, HN.out ▸ HS6.out.row, HN.out ▸ HB6.out⟩
end Go.Proofs.Ytkfblapfphnggaa
/- reader.part: an int. -/
namespace Go.Proofs.Ytkfblapfphnggaa
open Go.RowKit
set_option maxRecDepth 100000
attribute [local go_sem] run_store_complex

theorem infoT : (Try.prog.info? 31).map (·.size) = some 9 := by kernel_rfl
set_option maxHeartbeats 2000000 in
theorem rp1 (R p m : Nat) (v bv : Value) (bs : List UInt8) (s s1 : St) (sub : Rd Tm) (d : Int) (hd : d ≤ 24) (w : World) (h : RdAt w R p m v bv bs s) (hn : s.n + 1 ≤ 4096) (ho : oneP bs { s with n := s.n + 1 } = .ok (1, s1)) :
    Calls Try.prog 17 #[.pointer (some ⟨R, 0, none⟩), .int .i64 d] w (PartPost R p m v bv bs w (kindP bs sub 1 s1)) := by
  have H := Lib.hid h
  have HO := Lib.hid ho
  have HA := Lib.hid (h.below ((Below.refl _ w).alloc (Nat.le_refl _) (.cells #[.int .i64 0, .int .i64 0, .complex .f64 0 0, .string ⟨#[]⟩, .int .i64 0, .int .u32 0, .int .u64 0, nilV, nilV] 31)))
  have r2 := HA.out.c2
  have rf := HA.out.fz 2
  have hn' : (s.n : Int) + 1 ≤ 4096 := by omega
  clear h ho
  go_enter Try.func17, Try.ntmps17
  go_wp2_with fail
  have HR2 : Hid (RdAt ((w.alloc (.cells #[.int .i64 0, .int .i64 0, .complex .f64 0 0, .string ⟨#[]⟩, .int .i64 0, .int .u32 0, .int .u64 0, nilV, nilV] 31)).setCell ⟨R, 2, none⟩ (.int .i64 ((s.n : Int) + 1))) R p m v bv bs { s with n := s.n + 1 }) := HA.out.store (by simp) rfl HA.out.ile (show s.n + 1 ≤ 4097 by omega)
  have HT2 := Lib.hid ((Turn.alloc (fun i => i = R) w (.cells #[.int .i64 0, .int .i64 0, .complex .f64 0 0, .string ⟨#[]⟩, .int .i64 0, .int .u32 0, .int .u64 0, nilV, nilV] 31)).trans (Turn.setCell _ R 2 (.int .i64 ((s.n : Int) + 1))))
  have hRl := H.out.lt R (.inl rfl)
  have hT0R : ¬ w.heap.size = R := by omega
  have HT0 := Lib.hid ((Below.heap_setCell (w.alloc (.cells #[.int .i64 0, .int .i64 0, .complex .f64 0 0, .string ⟨#[]⟩, .int .i64 0, .int .u32 0, .int .u64 0, nilV, nilV] 31)) ⟨R, 2, none⟩ (.int .i64 ((s.n : Int) + 1)) _ hT0R).trans (heap_new w _))
  generalize (w.alloc (.cells #[.int .i64 0, .int .i64 0, .complex .f64 0 0, .string ⟨#[]⟩, .int .i64 0, .int .u32 0, .int .u64 0, nilV, nilV] 31)).setCell ⟨R, 2, none⟩ (.int .i64 ((s.n : Int) + 1)) = w2 at *
  have H1 := one_any R p m v bv bs _ w2 HR2.out
  rw [HO.out] at H1
  obtain ⟨N, hN⟩ : ∃ N, w.heap.size = N := ⟨_, rfl⟩
  rw [hN] at hRl hT0R HT0 ⊢
  have HN := Lib.hid hN
  refine H1.mono ?_
  rintro e w3 ⟨rfl, hR3, hT3⟩
  have HR3 := Lib.hid hR3
  have HT3 := Lib.hid (HT2.out.trans hT3)
  have HT03 := Lib.hid ((hT3.block N (blk_lt HT0.out) hT0R).trans HT0.out)
  have hNl : N < w3.heap.size := blk_lt HT03.out
  clear hR3 hT3 hN HA HR2 HT2 HT0 H1 r2 rf hn' HO
  have HR4 := Lib.hid (HR3.out.below ((Below.refl _ w3).alloc (Nat.le_refl _) (.cells #[.int .i64 1, .int .i64 0, .complex .f64 0 0, .string ⟨#[]⟩, .int .i64 0, .int .u32 0, .int .u64 0, nilV, nilV] 31)))
  have HT4 := Lib.hid (turnR (p := p) (m := m) (v := v) (HT3.out.trans (Turn.alloc (fun i => i = R) w3 (.cells #[.int .i64 1, .int .i64 0, .complex .f64 0 0, .string ⟨#[]⟩, .int .i64 0, .int .u32 0, .int .u64 0, nilV, nilV] 31))))
  have HT04 := Lib.hid ((Below.heap_alloc w3 (.cells #[.int .i64 1, .int .i64 0, .complex .f64 0 0, .string ⟨#[]⟩, .int .i64 0, .int .u32 0, .int .u64 0, nilV, nilV] 31) N hNl).trans HT03.out)
  have HT14 := Lib.hid (heap_new w3 (.cells #[.int .i64 1, .int .i64 0, .complex .f64 0 0, .string ⟨#[]⟩, .int .i64 0, .int .u32 0, .int .u64 0, nilV, nilV] 31))
  have hT1R : ¬ w3.heap.size = R := by omega
  obtain ⟨k0, k1, k2, k3, k4, k5, k6, k7, k8⟩ := NineAt.of_block HT14.out
  go_wp2_with fail
  clear k0 k1 k2 k3 k4 k5 k6 k7 k8 HR3 HT3 HT03
  generalize w3.alloc (.cells #[.int .i64 1, .int .i64 0, .complex .f64 0 0, .string ⟨#[]⟩, .int .i64 0, .int .u32 0, .int .u64 0, nilV, nilV] 31) = w4 at *
  generalize w3.heap.size = T at *
  have HW := wide_any R p m v bv bs s1 w4 HR4.out
  cases hw : wideN bs s1 with
  | error x =>
    rw [hw] at HW
    have HK := Lib.hid (show kindP bs sub 1 s1 = .error x by simp [kindP, hw])
    have HW := Lib.hid HW
    clear hw
    refine HW.out.mono ?_
    rintro e w5 ⟨rfl, hT5⟩
    go_wp2_with fail
    refine ⟨rfl, ?_⟩
    rw [HK.out]
    exact ⟨rfl, HT4.out.trans (turnR hT5)⟩
  | ok y =>
    obtain ⟨u, s2⟩ := y
    rw [hw] at HW
    have hu := wideN_lt hw
    have hz := zig_eq u hu
    have HK := Lib.hid (show kindP bs sub 1 s1 = if inR (zig u) = true then .ok (.mk { kind := 1, n := zig u } [], s2) else .error 73 by simp [kindP, hw])
    have HW := Lib.hid HW
    clear hw
    refine HW.out.mono ?_
    rintro e w5 ⟨rfl, hR5, hT5⟩
    have HR5 := Lib.hid hR5
    have HT5 := Lib.hid (HT4.out.trans (turnR hT5))
    have HT05 := Lib.hid ((hT5.block N (blk_lt HT04.out) hT0R).trans HT04.out)
    have HT15 := Lib.hid ((hT5.block T (blk_lt HT14.out) hT1R).trans HT14.out)
    clear hR5 hT5 HR4 HT4 HT04 HT14 HW
    have hNT : ¬ N = T := by omega
    obtain ⟨k0, k1, k2, k3, k4, k5, k6, k7, k8⟩ := NineAt.of_block HT15.out
    have f1 := blk_fz HT15.out 1
    go_wp2_with fail
    clear k0 k1 k2 k3 k4 k5 k6 k7 k8 hz f1 hu
    have hNw := HN.out
    have HR6 := Lib.hid (rd_setT (o := 1) (u := .int .i64 (zig u)) H.out HR5.out (show w.heap.size ≤ T by omega) (.inl rfl))
    have HT6 := Lib.hid (turn_setT (o := 1) (u := .int .i64 (zig u)) HT5.out (show w.heap.size ≤ T by omega))
    have HT06 := Lib.hid ((Below.heap_setCell w5 ⟨T, 1, none⟩ (.int .i64 (zig u)) _ hNT).trans HT05.out)
    have HT16 : Hid ((w5.setCell ⟨T, 1, none⟩ (.int .i64 (zig u))).heap[T]? = some (.cells #[.int .i64 1, .int .i64 (zig u), .complex .f64 0 0, .string ⟨#[]⟩, .int .i64 0, .int .u32 0, .int .u64 0, nilV, nilV] 31 (0, 0))) := heap_setCell_at HT15.out
    clear hNw HR5 HT5 HT05 HT15
    generalize w5.setCell ⟨T, 1, none⟩ (.int .i64 (zig u)) = w6 at *
    generalize zig u = n at *
    refine (right1_any n w6).mono ?_
    rintro e w7 ⟨rfl, hb7⟩
    have HR7 := Lib.hid (HR6.out.below hb7)
    have HT7 := Lib.hid (HT6.out.trans (Turn.of_below hb7))
    have HT07 := Lib.hid ((hb7.block N (blk_lt HT06.out)).trans HT06.out)
    have HT17 := Lib.hid ((hb7.block T (blk_lt HT16.out)).trans HT16.out)
    clear hb7 HR6 HT6 HT06 HT16
    cases hI : inR n with
    | false =>
      rw [hI] at HK
      clear hI
      go_wp2_with fail
      refine (must_no _ _).mono ?_
      rintro e w8 ⟨rfl, rfl⟩
      go_wp2_with fail
      refine ⟨rfl, ?_⟩
      rw [HK.out]
      exact ⟨rfl, HT7.out⟩
    | true =>
      rw [hI] at HK
      clear hI
      go_wp2_with fail
      refine (must_yes _ _).mono ?_
      rintro e w8 ⟨rfl, rfl⟩
      obtain ⟨k0, k1, k2, k3, k4, k5, k6, k7, k8⟩ := NineAt.of_block HT17.out
      go_wp2_with (refine wpList_store_row rfl 31 (.tmp 4) (.tmp 155) rfl N #[.int .i64 1, .int .i64 n, .complex .f64 0 0, .string ⟨#[]⟩, .int .i64 0, .int .u32 0, .int .u64 0, nilV, nilV] rfl rfl 31 #[.int .i64 0, .int .i64 0, .complex .f64 0 0, .string ⟨#[]⟩, .int .i64 0, .int .u32 0, .int .u64 0, nilV, nilV] HT07.out infoT rfl (by simp [Array.all, Value.oneCell']) ?_)
      clear k0 k1 k2 k3 k4 k5 k6 k7 k8
      have ht9 := NineAt.of_block (setRow_heap w8 N #[.int .i64 0, .int .i64 0, .complex .f64 0 0, .string ⟨#[]⟩, .int .i64 0, .int .u32 0, .int .u64 0, nilV, nilV] #[.int .i64 1, .int .i64 n, .complex .f64 0 0, .string ⟨#[]⟩, .int .i64 0, .int .u32 0, .int .u64 0, nilV, nilV] 31 (0, 0) HT07.out)
      have HC := Lib.hid (rp_close (cs := #[.int .i64 1, .int .i64 n, .complex .f64 0 0, .string ⟨#[]⟩, .int .i64 0, .int .u32 0, .int .u64 0, nilV, nilV]) H.out HR7.out HT7.out HN.out (.inl rfl) (Rep.leaf (h := { kind := 1, n := n }) rfl))
      generalize w8.setRow N #[.int .i64 1, .int .i64 n, .complex .f64 0 0, .string ⟨#[]⟩, .int .i64 0, .int .u32 0, .int .u64 0, nilV, nilV] = wz at *
      obtain ⟨k0, k1, k2, k3, k4, k5, k6, k7, k8⟩ := ht9
      exact bodyPost_ret (v := .agg #[.int .i64 1, .int .i64 n, .complex .f64 0 0, .string ⟨#[]⟩, .int .i64 0, .int .u32 0, .int .u64 0, nilV, nilV]) (by simp [results, Try.results17, go_sem, k0, k1, k2, k3, k4, k5, k6, k7, k8]) rfl (by rw [HK.out]; exact ⟨v, _, rfl, HC.out⟩)
end Go.Proofs.Ytkfblapfphnggaa
/- reader.part: a complex number. -/
namespace Go.Proofs.Ytkfblapfphnggaa
open Go.RowKit
set_option maxRecDepth 100000
attribute [local go_sem] run_store_complex

set_option maxHeartbeats 2000000 in
theorem rp2 (R p m : Nat) (v bv : Value) (bs : List UInt8) (s s1 : St) (sub : Rd Tm) (d : Int) (hd : d ≤ 24) (w : World) (h : RdAt w R p m v bv bs s) (hn : s.n + 1 ≤ 4096) (ho : oneP bs { s with n := s.n + 1 } = .ok (2, s1)) :
    Calls Try.prog 17 #[.pointer (some ⟨R, 0, none⟩), .int .i64 d] w (PartPost R p m v bv bs w (kindP bs sub 2 s1)) := by
  have H := Lib.hid h
  have HO := Lib.hid ho
  have HA := Lib.hid (h.below ((Below.refl _ w).alloc (Nat.le_refl _) (.cells #[.int .i64 0, .int .i64 0, .complex .f64 0 0, .string ⟨#[]⟩, .int .i64 0, .int .u32 0, .int .u64 0, nilV, nilV] 31)))
  have r2 := HA.out.c2
  have rf := HA.out.fz 2
  have hn' : (s.n : Int) + 1 ≤ 4096 := by omega
  clear h ho
  go_enter Try.func17, Try.ntmps17
  go_wp2_with fail
  have HR2 : Hid (RdAt ((w.alloc (.cells #[.int .i64 0, .int .i64 0, .complex .f64 0 0, .string ⟨#[]⟩, .int .i64 0, .int .u32 0, .int .u64 0, nilV, nilV] 31)).setCell ⟨R, 2, none⟩ (.int .i64 ((s.n : Int) + 1))) R p m v bv bs { s with n := s.n + 1 }) := HA.out.store (by simp) rfl HA.out.ile (show s.n + 1 ≤ 4097 by omega)
  have HT2 := Lib.hid ((Turn.alloc (fun i => i = R) w (.cells #[.int .i64 0, .int .i64 0, .complex .f64 0 0, .string ⟨#[]⟩, .int .i64 0, .int .u32 0, .int .u64 0, nilV, nilV] 31)).trans (Turn.setCell _ R 2 (.int .i64 ((s.n : Int) + 1))))
  have hRl := H.out.lt R (.inl rfl)
  have hT0R : ¬ w.heap.size = R := by omega
  have HT0 := Lib.hid ((Below.heap_setCell (w.alloc (.cells #[.int .i64 0, .int .i64 0, .complex .f64 0 0, .string ⟨#[]⟩, .int .i64 0, .int .u32 0, .int .u64 0, nilV, nilV] 31)) ⟨R, 2, none⟩ (.int .i64 ((s.n : Int) + 1)) _ hT0R).trans (heap_new w _))
  generalize (w.alloc (.cells #[.int .i64 0, .int .i64 0, .complex .f64 0 0, .string ⟨#[]⟩, .int .i64 0, .int .u32 0, .int .u64 0, nilV, nilV] 31)).setCell ⟨R, 2, none⟩ (.int .i64 ((s.n : Int) + 1)) = w2 at *
  have H1 := one_any R p m v bv bs _ w2 HR2.out
  rw [HO.out] at H1
  obtain ⟨N, hN⟩ : ∃ N, w.heap.size = N := ⟨_, rfl⟩
  rw [hN] at hRl hT0R HT0 ⊢
  have HN := Lib.hid hN
  refine H1.mono ?_
  rintro e w3 ⟨rfl, hR3, hT3⟩
  have HR3 := Lib.hid hR3
  have HT3 := Lib.hid (HT2.out.trans hT3)
  have HT03 := Lib.hid ((hT3.block N (blk_lt HT0.out) hT0R).trans HT0.out)
  have hNl : N < w3.heap.size := blk_lt HT03.out
  clear hR3 hT3 hN HA HR2 HT2 HT0 H1 r2 rf hn' HO
  have HR4 := Lib.hid (HR3.out.below ((Below.refl _ w3).alloc (Nat.le_refl _) (.cells #[.int .i64 2, .int .i64 0, .complex .f64 0 0, .string ⟨#[]⟩, .int .i64 0, .int .u32 0, .int .u64 0, nilV, nilV] 31)))
  have HT4 := Lib.hid (turnR (p := p) (m := m) (v := v) (HT3.out.trans (Turn.alloc (fun i => i = R) w3 (.cells #[.int .i64 2, .int .i64 0, .complex .f64 0 0, .string ⟨#[]⟩, .int .i64 0, .int .u32 0, .int .u64 0, nilV, nilV] 31))))
  have HT04 := Lib.hid ((Below.heap_alloc w3 (.cells #[.int .i64 2, .int .i64 0, .complex .f64 0 0, .string ⟨#[]⟩, .int .i64 0, .int .u32 0, .int .u64 0, nilV, nilV] 31) N hNl).trans HT03.out)
  have HT14 := Lib.hid (heap_new w3 (.cells #[.int .i64 2, .int .i64 0, .complex .f64 0 0, .string ⟨#[]⟩, .int .i64 0, .int .u32 0, .int .u64 0, nilV, nilV] 31))
  have hT1R : ¬ w3.heap.size = R := by omega
  obtain ⟨k0, k1, k2, k3, k4, k5, k6, k7, k8⟩ := NineAt.of_block HT14.out
  go_wp2_with fail
  clear k0 k1 k2 k3 k4 k5 k6 k7 k8 HR3 HT3 HT03
  generalize w3.alloc (.cells #[.int .i64 2, .int .i64 0, .complex .f64 0 0, .string ⟨#[]⟩, .int .i64 0, .int .u32 0, .int .u64 0, nilV, nilV] 31) = w4 at *
  generalize w3.heap.size = T at *
  have HW := float_any R p m v bv bs s1 w4 HR4.out
  cases hw : someP bs 8 s1 with
  | error x =>
    rw [hw] at HW
    have HK := Lib.hid (show kindP bs sub 2 s1 = .error x by simp [kindP, (some16_err1 hw).2])
    have HW := Lib.hid HW
    clear hw
    refine HW.out.mono ?_
    rintro e w5 ⟨rfl, hT5⟩
    go_wp2_with fail
    refine ⟨rfl, ?_⟩
    rw [HK.out]
    exact ⟨rfl, HT4.out.trans (turnR hT5)⟩
  | ok y =>
    obtain ⟨l1, s2⟩ := y
    rw [hw] at HW
    have HU := Lib.hid hw
    have HW := Lib.hid HW
    clear hw
    refine HW.out.mono ?_
    rintro e w5 ⟨rfl, hR5, hT5⟩
    have HR5 := Lib.hid hR5
    have HT5 := Lib.hid (HT4.out.trans (turnR hT5))
    have HT05 := Lib.hid ((hT5.block N (blk_lt HT04.out) hT0R).trans HT04.out)
    have HT15 := Lib.hid ((hT5.block T (blk_lt HT14.out) hT1R).trans HT14.out)
    clear hR5 hT5 HR4 HT4 HT04 HT14 HW
    have HWb := float_any R p m v bv bs s2 w5 HR5.out
    cases hw : someP bs 8 s2 with
    | error x =>
      rw [hw] at HWb
      have HK := Lib.hid (show kindP bs sub 2 s1 = .error x by simp [kindP, some16_err2 HU.out hw])
      have HWb := Lib.hid HWb
      clear hw
      go_wp2_with fail
      refine HWb.out.mono ?_
      rintro e w6 ⟨rfl, hT6⟩
      go_wp2_with fail
      refine ⟨rfl, ?_⟩
      rw [HK.out]
      exact ⟨rfl, HT5.out.trans (turnR hT6)⟩
    | ok y =>
      obtain ⟨l2, s3⟩ := y
      rw [hw] at HWb
      have HK := Lib.hid (kind2_eq (sub := sub) HU.out hw)
      have HA := Lib.hid (word8 HU.out)
      have HB := Lib.hid (word8 hw)
      have HWb := Lib.hid HWb
      clear hw HU
      go_wp2_with fail
      refine HWb.out.mono ?_
      rintro e w6 ⟨rfl, hR6, hT6⟩
      have HR6 := Lib.hid hR6
      have HT6 := Lib.hid (HT5.out.trans (turnR hT6))
      have HT06 := Lib.hid ((hT6.block N (blk_lt HT05.out) hT0R).trans HT05.out)
      have HT16 := Lib.hid ((hT6.block T (blk_lt HT15.out) hT1R).trans HT15.out)
      clear hR6 hT6 HR5 HT5 HT05 HT15 HWb
      have hNT : ¬ N = T := by omega
      obtain ⟨k0, k1, k2, k3, k4, k5, k6, k7, k8⟩ := NineAt.of_block HT16.out
      have f1 := blk_fz HT16.out 2
      go_wp2_with fail
      clear k0 k1 k2 k3 k4 k5 k6 k7 k8 f1
      have hNw := HN.out
      have HR7 := Lib.hid (rd_setT (o := 2) (u := .complex .f64 (wordOf l1) (wordOf l2)) H.out HR6.out (show w.heap.size ≤ T by omega) (.inl rfl))
      have HT7 := Lib.hid (turn_setT (o := 2) (u := .complex .f64 (wordOf l1) (wordOf l2)) HT6.out (show w.heap.size ≤ T by omega))
      have HT07 := Lib.hid ((Below.heap_setCell w6 ⟨T, 2, none⟩ (.complex .f64 (wordOf l1) (wordOf l2)) _ hNT).trans HT06.out)
      have HT17 : Hid ((w6.setCell ⟨T, 2, none⟩ (.complex .f64 (wordOf l1) (wordOf l2))).heap[T]? = some (.cells #[.int .i64 2, .int .i64 0, .complex .f64 (wordOf l1) (wordOf l2), .string ⟨#[]⟩, .int .i64 0, .int .u32 0, .int .u64 0, nilV, nilV] 31 (0, 0))) := heap_setCell_at HT16.out
      clear hNw HR6 HT6 HT06 HT16
      generalize w6.setCell ⟨T, 2, none⟩ (.complex .f64 (wordOf l1) (wordOf l2)) = w7 at *
      refine (right2_any (wordOf l1) (wordOf l2) HA.out HB.out w7).mono ?_
      rintro e w8 ⟨rfl, hb8⟩
      have HR8 := Lib.hid (HR7.out.below hb8)
      have HT8 := Lib.hid (HT7.out.trans (Turn.of_below hb8))
      have HT08 := Lib.hid ((hb8.block N (blk_lt HT07.out)).trans HT07.out)
      have HT18 := Lib.hid ((hb8.block T (blk_lt HT17.out)).trans HT17.out)
      clear hb8 HR7 HT7 HT07 HT17
      cases hI : (okF (wordOf l1) && okF (wordOf l2)) with
      | false =>
        rw [hI] at HK
        clear hI
        go_wp2_with fail
        refine (must_no _ _).mono ?_
        rintro e w9 ⟨rfl, rfl⟩
        go_wp2_with fail
        refine ⟨rfl, ?_⟩
        rw [HK.out]
        exact ⟨rfl, HT8.out⟩
      | true =>
        rw [hI] at HK
        clear hI
        go_wp2_with fail
        refine (must_yes _ _).mono ?_
        rintro e w9 ⟨rfl, rfl⟩
        obtain ⟨k0, k1, k2, k3, k4, k5, k6, k7, k8⟩ := NineAt.of_block HT18.out
        go_wp2_with (refine wpList_store_row rfl 31 (.tmp 4) (.tmp 155) rfl N #[.int .i64 2, .int .i64 0, .complex .f64 (wordOf l1) (wordOf l2), .string ⟨#[]⟩, .int .i64 0, .int .u32 0, .int .u64 0, nilV, nilV] rfl rfl 31 #[.int .i64 0, .int .i64 0, .complex .f64 0 0, .string ⟨#[]⟩, .int .i64 0, .int .u32 0, .int .u64 0, nilV, nilV] HT08.out infoT rfl (by simp [Array.all, Value.oneCell']) ?_)
        clear k0 k1 k2 k3 k4 k5 k6 k7 k8
        have ht9 := NineAt.of_block (setRow_heap w9 N #[.int .i64 0, .int .i64 0, .complex .f64 0 0, .string ⟨#[]⟩, .int .i64 0, .int .u32 0, .int .u64 0, nilV, nilV] #[.int .i64 2, .int .i64 0, .complex .f64 (wordOf l1) (wordOf l2), .string ⟨#[]⟩, .int .i64 0, .int .u32 0, .int .u64 0, nilV, nilV] 31 (0, 0) HT08.out)
        have HC := Lib.hid (rp_close (cs := #[.int .i64 2, .int .i64 0, .complex .f64 (wordOf l1) (wordOf l2), .string ⟨#[]⟩, .int .i64 0, .int .u32 0, .int .u64 0, nilV, nilV]) H.out HR8.out HT8.out HN.out (.inl rfl) (Rep.leaf (h := { kind := 2, re := wordOf l1, im := wordOf l2 }) rfl))
        generalize w9.setRow N #[.int .i64 2, .int .i64 0, .complex .f64 (wordOf l1) (wordOf l2), .string ⟨#[]⟩, .int .i64 0, .int .u32 0, .int .u64 0, nilV, nilV] = wz at *
        obtain ⟨k0, k1, k2, k3, k4, k5, k6, k7, k8⟩ := ht9
        exact bodyPost_ret (v := .agg #[.int .i64 2, .int .i64 0, .complex .f64 (wordOf l1) (wordOf l2), .string ⟨#[]⟩, .int .i64 0, .int .u32 0, .int .u64 0, nilV, nilV]) (by simp [results, Try.results17, go_sem, k0, k1, k2, k3, k4, k5, k6, k7, k8]) rfl (by rw [HK.out]; exact ⟨v, _, rfl, HC.out⟩)
end Go.Proofs.Ytkfblapfphnggaa
