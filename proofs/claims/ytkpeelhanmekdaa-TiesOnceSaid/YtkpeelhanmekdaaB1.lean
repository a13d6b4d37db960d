/- The order of two ids: ties.order, with the draws counted. -/
import Derived.Test.YtkpeelhanmekdaaA4
import Derived.Test.YtkpeelhanmekdaaB0
namespace Go.Proofs.Ytkpeelhanmekdaa.G
set_option linter.unusedVariables false
set_option linter.unusedSimpArgs false
set_option linter.constructorNameAsVariable false
open Go.RowKit
set_option maxRecDepth 100000
attribute [local go_sem] run_store_complex run_store_func' run_store_nilFunc'

/-- a right id -/
structure IdOk (x : Idd) : Prop where
  n1 : 1 ≤ x.node
  n2 : x.node ≤ 64
  b1 : 1 ≤ x.boot
  b2 : x.boot ≤ 4294967295
  i1 : 1 ≤ x.n
  i2 : x.n ≤ 18446744073709551615
theorem IdOk.in' {x : Idd} (h : IdOk x) : IdIn x := ⟨by have := h.n2; omega, h.b2, h.i2⟩
abbrev pidV (x : Idd) : Value := vI 5 x.node x.boot x.n
theorem pid_any (x : Idd) (w : World) : Calls Try.prog 24 #[idV x] w (RB w (pidV x)) := by
  go_enter Try.func24, Try.ntmps24
  go_wp2_with fail
  exact bodyPost_ret (v := pidV x) (by simp [results, Try.results24, go_sem]) rfl ⟨rfl, ((Below.refl w.heap.size w).alloc (Nat.le_refl _) _).alloc (by simp) _⟩
theorem check_pid (x : Idd) (h : IdOk x) (w : World) : Calls Try.prog 22 #[pidV x] w (RB w (.int .i64 0)) := by
  refine check_good (.mk { kind := 5, node := x.node, boot := x.boot, idn := x.n } []) ⟨HdOk.id 5 x.node x.boot x.n (.inr rfl) (by have := h.n2; omega) (by have := h.b2; omega) (by have := h.i2; omega) ?_, by simp⟩ (by simp [sizeT, sizeTs]) (fun _ => False) _ w ?_ (fun b h => h.elim)
  · simp only [idOk]
    exact decide_eq_true ⟨by have := h.n1; omega, by have := h.n2; omega, by have := h.b1; omega, by have := h.i1; omega⟩
  · exact ⟨nilV, nilV, rfl, Row.nil _ _ _ _, [], Row.nil _ _ _ _, rfl⟩
/-- the sign of a difference -/
def sgn (a b : Nat) : Int := if a < b then -1 else if b < a then 1 else 0
theorem sgn_ways (a b : Nat) : ((a : Int) < b ∧ sgn a b = -1) ∨ (¬ (a : Int) < b ∧ (b : Int) < a ∧ sgn a b = 1) ∨ (¬ (a : Int) < b ∧ ¬ (b : Int) < a ∧ sgn a b = 0) := by
  unfold sgn
  by_cases h1 : a < b
  · exact .inl ⟨by omega, if_pos h1⟩
  · by_cases h2 : b < a
    · exact .inr (.inl ⟨by omega, by omega, by rw [if_neg h1, if_pos h2]⟩)
    · exact .inr (.inr ⟨by omega, by omega, by rw [if_neg h1, if_neg h2]⟩)
theorem sign_int (a b : Nat) (w : World) : Calls Try.prog 67 #[.int .i64 a, .int .i64 b] w (fun e w' => e = .returned (.int .i64 (sgn a b)) ∧ w' = w) := by
  rcases sgn_ways a b with ⟨h1, h2⟩ | ⟨h1, h2, h3⟩ | ⟨h1, h2, h3⟩
  all_goals
    go_enter Try.func67, Try.ntmps67
    go_wp2_with fail
    go_ret
    exact ⟨ret_int (by omega), rfl⟩
theorem sign_u32 (a b : Nat) (w : World) : Calls Try.prog 71 #[.int .u32 a, .int .u32 b] w (fun e w' => e = .returned (.int .i64 (sgn a b)) ∧ w' = w) := by
  rcases sgn_ways a b with ⟨h1, h2⟩ | ⟨h1, h2, h3⟩ | ⟨h1, h2, h3⟩
  all_goals
    go_enter Try.func71, Try.ntmps71
    go_wp2_with fail
    go_ret
    exact ⟨ret_int (by omega), rfl⟩
theorem sign_u64 (a b : Nat) (w : World) : Calls Try.prog 72 #[.int .u64 a, .int .u64 b] w (fun e w' => e = .returned (.int .i64 (sgn a b)) ∧ w' = w) := by
  rcases sgn_ways a b with ⟨h1, h2⟩ | ⟨h1, h2, h3⟩ | ⟨h1, h2, h3⟩
  all_goals
    go_enter Try.func72, Try.ntmps72
    go_wp2_with fail
    go_ret
    exact ⟨ret_int (by omega), rfl⟩
/-- the first that is none of 0 -/
def fst3 (a b c : Int) : Int := if a = 0 then (if b = 0 then c else b) else a
theorem first_any (a b c : Int) (w : World) (N : Nat) (hN : w.heap[N]? = some (.cells #[.int .i64 a, .int .i64 b, .int .i64 c] 3 (0, 0))) :
    Calls Try.prog 70 #[.slice (some ⟨N, 0, none⟩) 3 3] w (fun e w' => e = .returned (.int .i64 (fst3 a b c)) ∧ w' = w) := by
  have c0 : w.cell? ⟨N, 0, none⟩ = some (.int .i64 a) := by simp [World.cell?, hN]
  have c1 : w.cell? ⟨N, 1, none⟩ = some (.int .i64 b) := by simp [World.cell?, hN]
  have c2 : w.cell? ⟨N, 2, none⟩ = some (.int .i64 c) := by simp [World.cell?, hN]
  clear hN
  have key : ∀ r : Int, (a ≠ 0 ∧ r = a ∨ a = 0 ∧ b ≠ 0 ∧ r = b ∨ a = 0 ∧ b = 0 ∧ r = c) → Calls Try.prog 70 #[.slice (some ⟨N, 0, none⟩) 3 3] w (fun e w' => e = .returned (.int .i64 r) ∧ w' = w) := by
    intro r hr
    by_cases hc : c = 0
    all_goals
      rcases hr with ⟨h1, rfl⟩ | ⟨h1, h2, rfl⟩ | ⟨h1, h2, rfl⟩
      all_goals
        first | subst h1 | skip
        first | subst h2 | skip
        first | subst hc | skip
        go_enter Try.func70, Try.ntmps70
        go_wp2_with fail
        refine wp_loop_rounds 4 ?_
        rw [rounds_succ]
        go_wp2_with fail
        try (rw [rounds_succ]; go_wp2_with fail)
        try (rw [rounds_succ]; go_wp2_with fail)
        try (rw [rounds_succ]; go_wp2_with fail)
        go_ret
        exact ⟨rfl, rfl⟩
  refine key _ ?_
  unfold fst3
  by_cases h1 : a = 0
  · by_cases h2 : b = 0
    · exact .inr (.inr ⟨h1, h2, by rw [if_pos h1, if_pos h2]⟩)
    · exact .inr (.inl ⟨h1, h2, by rw [if_pos h1, if_neg h2]⟩)
  · exact .inl ⟨h1, by rw [if_neg h1]⟩
/-- the order of two ids -/
def cmpId (x y : Idd) : Int := fst3 (sgn x.node y.node) (sgn x.boot y.boot) (sgn x.n y.n)
end Go.Proofs.Ytkpeelhanmekdaa.G
