/- SerialRises: the walk. -/
import Derived.Test.YtdlcbejgadmdcaaS7
import Derived.IntWalk
namespace Go.Proofs.Ytdlcbejgadmdcaa
open Go.Shelf Go.RowKit Go.Lib Go.Sort Go.Proofs

/-- the sum of numbers -/
def tot : List Int → Int
  | [] => 0
  | x :: l => x + tot l
theorem tot_snoc (l : List Int) (x : Int) : tot (l ++ [x]) = tot l + x := by
  induction l with
  | nil => simp [tot]
  | cons y l ih => simp only [List.cons_append, tot, ih]; omega
theorem tot_perm {l m : List Int} (h : l.Perm m) : tot l = tot m := by
  induction h with
  | nil => rfl
  | cons x _ ih => simp only [tot, ih]
  | swap x y l => simp only [tot]; omega
  | trans _ _ ih1 ih2 => rw [ih1, ih2]
/-- the difference of two sums so far, as a number of 64 bits has it -/
def dif (xs ys : List Int) (k : Nat) : Int := (tot (xs.take k) - tot (ys.take k)) % 18446744073709551616
theorem dif_step {xs ys : List Int} {k : Nat} (hx : k < xs.length) (hy : k < ys.length) : dif xs ys (k + 1) = ((dif xs ys k + xs[k]) % 18446744073709551616 - ys[k]) % 18446744073709551616 := by
  unfold dif
  rw [List.take_succ_eq_append_getElem hx, List.take_succ_eq_append_getElem hy, tot_snoc, tot_snoc]
  omega
theorem dif_end {xs ys : List Int} (h : xs.Perm ys) (k : Nat) (hk : xs.length ≤ k) : dif xs ys k = 0 := by
  unfold dif
  have := h.length_eq
  rw [List.take_of_length_le hk, List.take_of_length_le (by omega), tot_perm h]
  simp
def valsU (l : List U) : List Int := l.map (·.1)
def sqsU (l : List U) : List Int := l.map fun x => x.1 * x.1
theorem valsU_len (l : List U) : (valsU l).length = l.length := by simp [valsU]
theorem sqsU_len (l : List U) : (sqsU l).length = l.length := by simp [sqsU]
theorem dif_stepU {s l : List U} {k : Nat} (hx : k < s.length) (hy : k < l.length) : dif (valsU s) (valsU l) (k + 1) = ((dif (valsU s) (valsU l) k + s[k].1) % 18446744073709551616 - l[k].1) % 18446744073709551616 := by
  have := dif_step (xs := valsU s) (ys := valsU l) (k := k) (by rw [valsU_len]; exact hx) (by rw [valsU_len]; exact hy)
  rw [this]
  congr 3
  all_goals simp [valsU]
theorem dif_stepQ {s l : List U} {k : Nat} (hx : k < s.length) (hy : k < l.length) : dif (sqsU s) (sqsU l) (k + 1) = ((dif (sqsU s) (sqsU l) k + s[k].1 * s[k].1) % 18446744073709551616 - l[k].1 * l[k].1) % 18446744073709551616 := by
  have := dif_step (xs := sqsU s) (ys := sqsU l) (k := k) (by rw [sqsU_len]; exact hx) (by rw [sqsU_len]; exact hy)
  rw [this]
  congr 3
  all_goals simp [sqsU]
theorem sq_bd (x : U) : 0 ≤ x.1 * x.1 ∧ x.1 * x.1 < 18446744073709551616 := by
  obtain ⟨h0, h1⟩ := x.2
  refine ⟨Int.mul_nonneg h0 h0, ?_⟩
  have : x.1 * x.1 ≤ 4294967295 * 4294967295 := Int.mul_le_mul (by omega) (by omega) h0 (by omega)
  omega
theorem dif_bd (xs ys : List Int) (k : Nat) : 0 ≤ dif xs ys k ∧ dif xs ys k < 18446744073709551616 := by unfold dif; omega
/-- the cell at k of a list of numbers -/
theorem Sl.cellU {W : World} {a : Option Addr} {n c : Nat} {l : List U} (h : Sl W (.slice a n c) (l.map encU)) {k : Nat} (hk : k < l.length) : ∃ b off, a = some ⟨b, off, none⟩ ∧ ∀ j, (hj : j < l.length) → W.cell? ⟨b, off + j, none⟩ = some (.int .u32 l[j].1) := by
  obtain ⟨a', c', e, hm, hc⟩ := h
  cases e
  obtain ⟨b, off, rfl, hcell⟩ := hc (by simp; omega)
  refine ⟨b, off, rfl, fun j hj => ?_⟩
  have := hcell j (by simpa using hj)
  simpa [encU] using this
def riRel (w : World) (a a2 : Option Addr) (n c c2 : Nat) (s l : List U) (t6 t7 t8 : Value) (wr : World) : Prop :=
  ∃ k : Nat, k ≤ n ∧ t8 = .int .i64 k ∧ t6 = .int .u64 (dif (valsU s) (valsU l) k) ∧ t7 = .int .u64 (dif (sqsU s) (sqsU l) k) ∧ Below w.heap.size w wr ∧ Sl wr (.slice a n c) (l.map encU) ∧ Sl wr (.slice a2 n c2) (s.map encU)
theorem below_drewN {B : Nat} {a b : World} (h : Below B a b) (q : Nat) : Below B a (b.drewN q) := ⟨h.os, h.tape, h.output, h.size, h.block⟩
theorem Sl.drewN {W : World} {v : Value} {l : List Value} (h : Sl W v l) (q : Nat) : Sl (W.drewN q) v l := h
set_option maxHeartbeats 1000000 in
theorem rises_walk (base : U) (v : Value) (l : List U) (w : World) (hv : Sl w v (l.map encU)) (hl : l.length * 4 ≤ 140737488355328) : Calls Try.prog 7 #[.int .u32 base.1, v] w (RB w (.bool true)) := by
  have HV := Lib.hid hv
  have hll : (l.map encU).length = l.length := by simp
  obtain ⟨a, c, rfl, -, -⟩ := hv
  rw [hll] at HV ⊢
  clear hll
  have HP := Lib.hid (sortU_perm base.1 l)
  have HL := Lib.hid (sortU_length base.1 l)
  have HR := Lib.hid (sortU_rises base.1 l)
  have HS := Lib.hid (fun W hv => sort_any base (.slice a l.length c) l W hv hl)
  generalize sortU base.1 l = s at HP HL HR HS
  go_enter Try.func7, Try.ntmps7
  go_wp2_with fail
  refine (alive_any w).mono ?_
  rintro e w1 ⟨rfl, hb1⟩
  have HB1 := Lib.hid hb1
  have HV1 := Lib.hid (HV.out.below hb1)
  clear hb1
  go_wp2_with fail
  refine (HS.out w1 HV1.out).mono ?_
  rintro e w2 ⟨v2, rfl, ho, hb2⟩
  have HB2 := Lib.hid (HB1.out.trans (hb2.mono HB1.out.size))
  have HV2 := Lib.hid (HV1.out.below hb2)
  have HO := Lib.hid (Sl.of_owns ho (by simp [HL.out]; omega))
  clear ho hb2
  obtain ⟨a2, c2, rfl, -, -⟩ := HO.out
  have hsl : (s.map encU).length = l.length := by simp [HL.out]
  rw [hsl] at HO ⊢
  clear hsl
  go_wp2_with fail
  go_loopw [6, 7, 8] (fun t6 t7 t8 wr => riRel w a a2 l.length c c2 s l t6 t7 t8 wr) (fun _ _ t8 _ => l.length - (intOf t8).toNat)
  case atStart => exact ⟨0, Nat.zero_le _, rfl, by simp [dif, tot], by simp [dif, tot], HB2.out, HV2.out, HO.out⟩
  case round =>
    obtain ⟨k, hk, rfl, rfl, rfl, hbr, hlr, hsr⟩ := hrel
    have HBR := Lib.hid hbr
    have HLR := Lib.hid hlr
    have HSR := Lib.hid hsr
    clear hbr hlr hsr
    by_cases hlt : k < l.length
    · obtain ⟨bl, ol, rfl, hcl⟩ := HLR.out.cellU hlt
      have hks : k < s.length := by rw [HL.out]; exact hlt
      obtain ⟨bs, os, rfl, hcs⟩ := HSR.out.cellU hks
      have cl := hcl k hlt
      have cs := hcs k hks
      obtain ⟨p0, p1⟩ := dif_bd (valsU s) (valsU l) k
      obtain ⟨q0, q1⟩ := dif_bd (sqsU s) (sqsU l) k
      obtain ⟨x0, x1⟩ := s[k].2
      obtain ⟨y0, y1⟩ := l[k].2
      obtain ⟨xx0, xx1⟩ := sq_bd s[k]
      obtain ⟨yy0, yy1⟩ := sq_bd l[k]
      have hA : Hid (∀ (y : Int) (w : World), Calls Try.prog 11 #[.int .u32 base.1, .int .u32 y] w fun e w' => e = .returned (.int .u32 (aheadI base.1 y)) ∧ w' = w) := fun y w => (ahead_any base.1 y w).mono fun e w' h => ⟨h.1, h.2.symm⟩
      have D1' := Lib.hid (dif_stepU hks hlt)
      have D2' := Lib.hid (dif_stepQ hks hlt)
      generalize dif (valsU s) (valsU l) k = d1 at *
      generalize dif (sqsU s) (sqsU l) k = d2 at *
      cases k with
      | zero =>
        generalize s[0].1 = x at *
        generalize l[0].1 = y at *
        clear hcl hcs
        simp only [Nat.add_zero] at cl cs
        go_wp2_with fail
        go_quiet (fail)
        go_wp2_with fail
        go_roundw
        case rel => exact ⟨1, by omega, by go_num, (congrArg (Value.int .u64) D1'.out).symm, (congrArg (Value.int .u64) D2'.out).symm, below_drewN HBR.out _, HLR.out.drewN _, HSR.out.drewN _⟩
        case measure => simp [intOf]; omega
      | succ j =>
        have hle : aheadI base.1 s[j].1 ≤ aheadI base.1 s[j + 1].1 := (List.pairwise_iff_getElem.1 HR.out) j (j + 1) (by omega) hks (by omega)
        have hd : decide (aheadI base.1 s[j + 1].1 < aheadI base.1 s[j].1) = false := by simp; omega
        have cj := hcs j (by omega)
        generalize s[j].1 = x' at *
        generalize s[j + 1].1 = x at *
        generalize l[j + 1].1 = y at *
        clear hcl hcs hle
        go_wp2_with fail
        go_quiet (exact Calls.quiet_of_same (hA.out _ _))
        go_wp2_with fail
        go_roundw
        case rel => exact ⟨j + 1 + 1, by omega, by go_num, (congrArg (Value.int .u64) D1'.out).symm, (congrArg (Value.int .u64) D2'.out).symm, below_drewN HBR.out _, HLR.out.drewN _, HSR.out.drewN _⟩
        case measure => simp [intOf]; omega
    · have hkn : k = l.length := by omega
      subst hkn
      have E1 := Lib.hid (dif_end (xs := valsU s) (ys := valsU l) (HP.out.map _) l.length (by rw [valsU_len, HL.out]; omega))
      have E2 := Lib.hid (dif_end (xs := sqsU s) (ys := sqsU l) (HP.out.map _) l.length (by rw [sqsU_len, HL.out]; omega))
      rw [E1.out, E2.out]
      go_wp2_with fail
      go_ret
      exact ⟨rfl, HBR.out⟩
theorem rises_row (base : Int) (v : Value) (l : List U) (w : World) (hb : (Lit.int .u32 base).wf = true) (hv : Sl w v (l.map encU)) (hl : l.length * 4 ≤ 140737488355328) : Calls Try.prog 7 #[.int .u32 base, v] w (RB w (.bool true)) := by
  simp [Lit.wf, IntKind.min, IntKind.max, IntKind.signed, IntKind.bits] at hb
  exact rises_walk ⟨base, hb.1, by omega⟩ v l w hv hl
end Go.Proofs.Ytdlcbejgadmdcaa
