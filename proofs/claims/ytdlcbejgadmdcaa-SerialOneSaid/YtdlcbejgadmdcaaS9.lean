/- SerialOne: the walk. -/
import Derived.Test.YtdlcbejgadmdcaaS8
namespace Go.Proofs.Ytdlcbejgadmdcaa
open Go.Shelf Go.RowKit Go.Lib Go.Sort Go.Proofs

theorem one_ahead (a b d : Int) : aheadI ((a + d) % 4294967296) ((b + d) % 4294967296) = aheadI a b := by
  rw [aheadI_eq, aheadI_eq]
  omega
theorem one_less (a b d : Int) : lessB ((a + d) % 4294967296) ((b + d) % 4294967296) = lessB a b := by
  unfold lessB
  rw [one_ahead]
theorem one_max (a b d : Int) : maxI ((a + d) % 4294967296) ((b + d) % 4294967296) = (maxI a b + d) % 4294967296 := by
  unfold maxI
  rw [one_less]
  split <;> rfl
/-- what two numbers are to each other -/
theorem one_law (a b : Int) (ha : U32 a) (hb : U32 b) : (a == b) = true ∧ lessB a b = false ∧ lessB b a = false ∨ (a == b) = false ∧ ((a - b) % 4294967296 == 2147483648) = true ∧ lessB a b = false ∧ lessB b a = false ∨
    (a == b) = false ∧ ((a - b) % 4294967296 == 2147483648) = false ∧ lessB a b = true ∧ lessB b a = false ∨ (a == b) = false ∧ ((a - b) % 4294967296 == 2147483648) = false ∧ lessB a b = false ∧ lessB b a = true := by
  obtain ⟨a0, a1⟩ := ha
  obtain ⟨b0, b1⟩ := hb
  unfold lessB
  rw [aheadI_eq, aheadI_eq]
  simp only [decide_eq_true_eq, decide_eq_false_iff_not, beq_iff_eq, beq_eq_false_iff_ne]
  omega
set_option maxHeartbeats 1000000 in
theorem one_walk (a b d : Int) (w : World) (ha : U32 a) (hb : U32 b) : Calls Try.prog 5 #[.int .u32 a, .int .u32 b, .int .u32 d] w (RB w (.bool true)) := by
  have hl := one_law a b ha hb
  have E1 := Lib.hid (one_less a b d)
  have E2 := Lib.hid (one_ahead a b d)
  have E3 := Lib.hid (one_max a b d)
  clear ha hb
  have tt : True := trivial
  rcases hl with ⟨ha, h1, h2⟩ | ⟨ha, hb, h1, h2⟩ | ⟨ha, hb, h1, h2⟩ | ⟨ha, hb, h1, h2⟩
  all_goals
    have hx := Lib.hid h1
    have hy := Lib.hid h2
    clear h1 h2
    go_enter Try.func5, Try.ntmps5
    go_wp2_with fail
    refine (alive_any w).mono ?_
    rintro e w1 ⟨rfl, hb1⟩
    have HB1 := Lib.hid hb1
    clear hb1
    go_wp2_with fail
    refine (less_any a b w1).mono ?_
    rintro e w2 ⟨rfl, rfl⟩
    rw [hx.out]
    go_wp2_with fail
    refine (less_any b a w1).mono ?_
    rintro e w2 ⟨rfl, rfl⟩
    rw [hy.out]
    go_wp2_with fail
    refine (less_any _ _ w1).mono ?_
    rintro e w2 ⟨rfl, rfl⟩
    rw [E1.out, hx.out]
    go_wp2_with fail
    refine (ahead_any _ _ w1).mono ?_
    rintro e w2 ⟨rfl, rfl⟩
    rw [E2.out]
    go_wp2_with fail
    refine (ahead_any a b w1).mono ?_
    rintro e w2 ⟨rfl, rfl⟩
    go_wp2_with fail
    refine (max_any _ _ w1).mono ?_
    rintro e w2 ⟨rfl, rfl⟩
    rw [E3.out]
    go_wp2_with fail
    refine (max_any a b w1).mono ?_
    rintro e w2 ⟨rfl, rfl⟩
    go_wp2_with fail
    go_ret
    exact ⟨rfl, HB1.out⟩
theorem u32_wf1 {a : Int} (h : (Lit.int .u32 a).wf = true) : U32 a := by
  simp [Lit.wf, IntKind.min, IntKind.max, IntKind.signed, IntKind.bits] at h
  exact ⟨h.1, by omega⟩
theorem one_row (a b d : Int) (w : World) (ha : (Lit.int .u32 a).wf = true) (hb : (Lit.int .u32 b).wf = true) (_ : (Lit.int .u32 d).wf = true) :
    Calls Try.prog 5 #[.int .u32 a, .int .u32 b, .int .u32 d] w (RB w (.bool true)) := one_walk a b d w (u32_wf1 ha) (u32_wf1 hb)
end Go.Proofs.Ytdlcbejgadmdcaa
