/- SerialWindow: the walk. -/
import Derived.Test.YtdlcbejgadmdcaaS8
namespace Go.Proofs.Ytdlcbejgadmdcaa
open Go.Shelf Go.RowKit Go.Lib Go.Sort Go.Proofs

/-- x lies in the window -/
def inB (base n x : Int) : Bool := decide (aheadI base x < n)
theorem win_less {base n a b : Int} (hn : 0 ≤ n ∧ n < 2147483648) (ha : inB base n a = true) (hb : inB base n b = true) : lessB a b = decide (aheadI base a < aheadI base b) := by
  unfold inB at ha hb
  unfold lessB
  simp only [aheadI_eq] at *
  rw [Bool.eq_iff_iff]
  simp only [decide_eq_true_eq] at *
  omega
theorem win_trans {base n a b c : Int} (hn : 0 ≤ n ∧ n < 2147483648) (ha : inB base n a = true) (hb : inB base n b = true) (hc : inB base n c = true) (h1 : lessB a b = true) (h2 : lessB b c = true) : lessB a c = true := by
  rw [win_less hn ha hb] at h1
  rw [win_less hn hb hc] at h2
  rw [win_less hn ha hc]
  simp only [decide_eq_true_eq] at *
  omega
theorem inB_any (a n b : Int) (w : World) : Calls Try.prog 13 #[.int .u32 a, .int .u32 n, .int .u32 b] w (RW w (.bool (inB a n b))) := in_any a n b w
/-- the ways of the law -/
theorem win_ways (base n a b c : Int) (hn : 0 ≤ n ∧ n < 2147483648) : inB base n a = false ∨ inB base n a = true ∧ inB base n b = false ∨ inB base n a = true ∧ inB base n b = true ∧ inB base n c = false ∨
    inB base n a = true ∧ inB base n b = true ∧ inB base n c = true ∧ ∃ x y z, lessB a b = x ∧ decide (aheadI base a < aheadI base b) = x ∧ lessB b c = y ∧ lessB a c = z ∧ (x = true → y = true → z = true) := by
  cases ha : inB base n a
  · exact .inl rfl
  cases hb : inB base n b
  · exact .inr (.inl ⟨rfl, rfl⟩)
  cases hc : inB base n c
  · exact .inr (.inr (.inl ⟨rfl, rfl, rfl⟩))
  · exact .inr (.inr (.inr ⟨rfl, rfl, rfl, _, _, _, rfl, (win_less hn ha hb).symm, rfl, rfl, fun h1 h2 => win_trans hn ha hb hc h1 h2⟩))
set_option maxHeartbeats 1000000 in
theorem window_walk (base n a b c : Int) (w : World) (hn : U32 n) : Calls Try.prog 6 #[.int .u32 base, .int .u32 n, .int .u32 a, .int .u32 b, .int .u32 c] w (RB w (.bool true)) := by
  obtain ⟨n0, n1⟩ := hn
  have hl := win_ways base (n % 2147483648) a b c (by omega)
  rcases hl with ha | ⟨ha, hb⟩ | ⟨ha, hb, hc⟩ | ⟨ha, hb, hc, x, y, z, h1, h2, h3, h4, h5⟩
  · have HA := Lib.hid ha
    clear ha
    go_enter Try.func6, Try.ntmps6
    go_wp2_with fail
    refine (alive_any w).mono ?_
    rintro e w1 ⟨rfl, hb1⟩
    have HB1 := Lib.hid hb1
    clear hb1
    go_wp2_with fail
    refine (inB_any _ _ _ w1).mono ?_
    rintro e w2 ⟨rfl, rfl⟩
    rw [HA.out]
    go_wp2_with fail
    go_ret
    exact ⟨rfl, HB1.out⟩
  · have HA := Lib.hid ha
    have HB := Lib.hid hb
    clear ha hb
    go_enter Try.func6, Try.ntmps6
    go_wp2_with fail
    refine (alive_any w).mono ?_
    rintro e w1 ⟨rfl, hb1⟩
    have HB1 := Lib.hid hb1
    clear hb1
    go_wp2_with fail
    refine (inB_any _ _ _ w1).mono ?_
    rintro e w2 ⟨rfl, rfl⟩
    rw [HA.out]
    go_wp2_with fail
    refine (inB_any _ _ _ w1).mono ?_
    rintro e w2 ⟨rfl, rfl⟩
    rw [HB.out]
    go_wp2_with fail
    go_ret
    exact ⟨rfl, HB1.out⟩
  · have HA := Lib.hid ha
    have HB := Lib.hid hb
    have HC := Lib.hid hc
    clear ha hb hc
    go_enter Try.func6, Try.ntmps6
    go_wp2_with fail
    refine (alive_any w).mono ?_
    rintro e w1 ⟨rfl, hb1⟩
    have HB1 := Lib.hid hb1
    clear hb1
    go_wp2_with fail
    refine (inB_any _ _ _ w1).mono ?_
    rintro e w2 ⟨rfl, rfl⟩
    rw [HA.out]
    go_wp2_with fail
    refine (inB_any _ _ _ w1).mono ?_
    rintro e w2 ⟨rfl, rfl⟩
    rw [HB.out]
    go_wp2_with fail
    refine (inB_any _ _ _ w1).mono ?_
    rintro e w2 ⟨rfl, rfl⟩
    rw [HC.out]
    go_wp2_with fail
    go_ret
    exact ⟨rfl, HB1.out⟩
  · have HA := Lib.hid ha
    have HB := Lib.hid hb
    have HC := Lib.hid hc
    have H1 := Lib.hid h1
    have H3 := Lib.hid h3
    have H4 := Lib.hid h4
    have H5 := Lib.hid h5
    clear ha hb hc h1 h3 h4 h5
    cases x
    all_goals
      go_enter Try.func6, Try.ntmps6
      go_wp2_with fail
      refine (alive_any w).mono ?_
      rintro e w1 ⟨rfl, hb1⟩
      have HB1 := Lib.hid hb1
      clear hb1
      go_wp2_with fail
      refine (inB_any _ _ _ w1).mono ?_
      rintro e w2 ⟨rfl, rfl⟩
      rw [HA.out]
      go_wp2_with fail
      refine (inB_any _ _ _ w1).mono ?_
      rintro e w2 ⟨rfl, rfl⟩
      rw [HB.out]
      go_wp2_with fail
      refine (inB_any _ _ _ w1).mono ?_
      rintro e w2 ⟨rfl, rfl⟩
      rw [HC.out]
      go_wp2_with fail
      refine (less_any _ _ w1).mono ?_
      rintro e w2 ⟨rfl, rfl⟩
      rw [H1.out]
      go_wp2_with fail
      refine (ahead_any _ _ w1).mono ?_
      rintro e w2 ⟨rfl, rfl⟩
      go_wp2_with fail
      refine (ahead_any _ _ w1).mono ?_
      rintro e w2 ⟨rfl, rfl⟩
      go_wp2_with fail
      refine (less_any _ _ w1).mono ?_
      rintro e w2 ⟨rfl, rfl⟩
      rw [H1.out]
      go_wp2_with fail
    · go_ret
      exact ⟨rfl, HB1.out⟩
    · refine (less_any _ _ w1).mono ?_
      rintro e w2 ⟨rfl, rfl⟩
      rw [H3.out]
      cases y
      · go_wp2_with fail
        go_ret
        exact ⟨rfl, HB1.out⟩
      · have hz : z = true := by have := H5.out; simpa using this
        subst hz
        go_wp2_with fail
        refine (less_any _ _ w1).mono ?_
        rintro e w2 ⟨rfl, rfl⟩
        rw [H4.out]
        go_wp2_with fail
        go_ret
        exact ⟨rfl, HB1.out⟩
theorem u32_wf {a : Int} (h : (Lit.int .u32 a).wf = true) : U32 a := by
  simp [Lit.wf, IntKind.min, IntKind.max, IntKind.signed, IntKind.bits] at h
  exact ⟨h.1, by omega⟩
theorem window_row (base n a b c : Int) (w : World) (_ : (Lit.int .u32 base).wf = true) (hn : (Lit.int .u32 n).wf = true) (_ : (Lit.int .u32 a).wf = true) (_ : (Lit.int .u32 b).wf = true) (_ : (Lit.int .u32 c).wf = true) :
    Calls Try.prog 6 #[.int .u32 base, .int .u32 n, .int .u32 a, .int .u32 b, .int .u32 c] w (RB w (.bool true)) := window_walk base n a b c w (u32_wf hn)
theorem tells_row (a b n : Int) (w : World) (ha : (Lit.int .u32 a).wf = true) (hb : (Lit.int .u32 b).wf = true) (hn : (Lit.int .u32 n).wf = true) :
    Calls Try.prog 3 #[.int .u32 a, .int .u32 b, .int .u32 n] w (RB w (.bool true)) := tells_walk a b n w (u32_wf ha) (u32_wf hb) (u32_wf hn)
end Go.Proofs.Ytdlcbejgadmdcaa
