/- The table of kinds, and its closures. -/
import Derived.Test.YtkpeelhanmekdaaA1
import Derived.Test.YtkpeelhanmekdaaG0
import Derived.StillTailTactics
import Derived.Laws.Tables
namespace Go.Proofs.Ytkpeelhanmekdaa.G
set_option linter.unusedVariables false
set_option linter.unusedSimpArgs false
set_option linter.constructorNameAsVariable false
open Go.RowKit
set_option maxRecDepth 100000
attribute [local go_sem] run_store_complex
theorem right1_any (n : Int) (w : World) : Calls Try.prog 34 #[v1 n] w (RB w (.bool (inR n))) := by
  have hcx := cx_eql
  have hI := Lib.hid (show inR n = decide (-4611686018427387904 ≤ n ∧ n ≤ 4611686018427387903) from rfl)
  rcases Int.lt_or_le n (-4611686018427387904) with h1 | h1
  · have hf : decide ((-4611686018427387904 : Int) ≤ n) = false := decide_eq_false (by omega)
    go_enter Try.func34, Try.ntmps34
    go_wp2_with fail
    go_ret
    exact ⟨ret_bool (by rw [hI.out]; simp; omega), (Below.refl _ _).alloc (Nat.le_refl _) _⟩
  · rcases Int.lt_or_le 4611686018427387903 n with h2 | h2
    · have hf : decide (n ≤ (4611686018427387903 : Int)) = false := decide_eq_false (by omega)
      go_enter Try.func34, Try.ntmps34
      go_wp2_with fail
      go_ret
      exact ⟨ret_bool (by rw [hI.out]; simp; omega), (Below.refl _ _).alloc (Nat.le_refl _) _⟩
    · go_enter Try.func34, Try.ntmps34
      go_wp2_with fail
      go_ret
      exact ⟨ret_bool (by rw [hI.out]; simp; omega), (Below.refl _ _).alloc (Nat.le_refl _) _⟩
/-- the table of kinds -/
abbrev fv (k : Nat) : Value := .func (.func k) #[] #[]
abbrev kTab : Array Value := #[.nilFunc, .nilFunc, fv 40, fv 33, fv 41, fv 33, fv 42, fv 43, fv 38, fv 35, fv 38, fv 35, fv 39, fv 37, fv 39, fv 37, fv 45, fv 37]
abbrev zTab : Array Value := #[.nilFunc, .nilFunc, .nilFunc, .nilFunc, .nilFunc, .nilFunc, .nilFunc, .nilFunc, .nilFunc, .nilFunc, .nilFunc, .nilFunc, .nilFunc, .nilFunc, .nilFunc, .nilFunc, .nilFunc, .nilFunc]
theorem setRow_new (w : World) (old cells : Array Value) (t : TypeId) : (w.alloc (.cells old t)).setRow w.heap.size cells = w.alloc (.cells cells t) := by
  unfold World.setRow World.alloc
  congr 1
  apply Array.ext_getElem?
  intro k
  simp only [Array.getElem?_modify, Array.getElem?_push]
  by_cases hk : w.heap.size = k
  · subst hk; simp
  · have : ¬ k = w.heap.size := fun e => hk e.symm
    simp [hk, this]
set_option maxRecDepth 100000 in
theorem kinds_any (w : World) : Calls Try.prog 27 #[] w (RB w (.agg kTab)) := by
  go_enter Try.func27, Try.ntmps27
  have hi56 : (Try.prog.info? 71).map (·.size) = some kTab.size := by kernel_rfl
  have hall : kTab.all (·.oneCell') = true := by kernel_rfl
  go_wp2_with (refine wpList_store_row rfl 71 (.tmp 0) (.tmp 25) rfl w.heap.size kTab rfl rfl 71 zTab (heap_new _ _) hi56 rfl hall ?_; rw [setRow_new])
  exact bodyPost_ret (v := .agg kTab) (by simp [results, Try.results27, go_sem]) rfl ⟨rfl, (Below.refl w.heap.size w).alloc (Nat.le_refl _) _⟩
abbrev vZ (k : Int) : Value := .agg #[.int .i64 k, .int .i64 0, .complex .f64 0 0, .string ⟨#[]⟩, .int .i64 0, .int .u32 0, .int .u64 0, nilV, nilV]
abbrev vA (s : ByteArray) : Value := .agg #[.int .i64 3, .int .i64 0, .complex .f64 0 0, .string s, .int .i64 0, .int .u32 0, .int .u64 0, nilV, nilV]
abbrev vI (k node boot idn : Int) : Value := .agg #[.int .i64 k, .int .i64 0, .complex .f64 0 0, .string ⟨#[]⟩, .int .i64 node, .int .u32 boot, .int .u64 idn, nilV, nilV]
abbrev vL (k : Int) (lv : Value) : Value := .agg #[.int .i64 k, .int .i64 0, .complex .f64 0 0, .string ⟨#[]⟩, .int .i64 0, .int .u32 0, .int .u64 0, nilV, lv]
/-- a part without its own field: of an int, a complex number, an atom, an id, a list, bytes -/
theorem bare6 (n : Int) (w : World) : Calls Try.prog 40 #[v1 n] w (RB w (vZ 1)) := by
  go_enter Try.func40, Try.ntmps40
  go_wp2_with fail
  exact bodyPost_ret (v := vZ 1) (by simp [results, Try.results40, go_sem]) rfl ⟨rfl, ((Below.refl w.heap.size w).alloc (Nat.le_refl _) _).alloc (by simp) _⟩
theorem bare8 (s : ByteArray) (w : World) : Calls Try.prog 42 #[vA s] w (RB w (vZ 3)) := by
  go_enter Try.func42, Try.ntmps42
  go_wp2_with fail
  exact bodyPost_ret (v := vZ 3) (by simp [results, Try.results42, go_sem]) rfl ⟨rfl, ((Below.refl w.heap.size w).alloc (Nat.le_refl _) _).alloc (by simp) _⟩
theorem bare4 (k node boot idn : Int) (w : World) : Calls Try.prog 38 #[vI k node boot idn] w (RB w (vZ k)) := by
  go_enter Try.func38, Try.ntmps38
  go_wp2_with fail
  exact bodyPost_ret (v := vZ k) (by simp [results, Try.results38, go_sem]) rfl ⟨rfl, ((Below.refl w.heap.size w).alloc (Nat.le_refl _) _).alloc (by simp) _⟩
theorem bare5 (k : Int) (a : Option Addr) (n c : Nat) (w : World) : Calls Try.prog 39 #[vL k (.slice a n c)] w (RB w (vZ k)) := by
  go_enter Try.func39, Try.ntmps39
  go_wp2_with fail
  exact bodyPost_ret (v := vZ k) (by simp [results, Try.results39, go_sem]) rfl ⟨rfl, ((Below.refl w.heap.size w).alloc (Nat.le_refl _) _).alloc (by simp) _⟩
theorem empty_any (k : Int) (w : World) : Calls Try.prog 46 #[vZ k] w (RB w (.bool true)) := by
  have hcx := cx_eql
  go_enter Try.func46, Try.ntmps46
  go_wp2_with fail
  go_ret
  exact ⟨rfl, (Below.refl _ _).alloc (Nat.le_refl _) _⟩
theorem good1a (n : Int) (w : World) : Calls Try.prog 33 #[v1 n] w (RB w (.bool (inR n))) := by
  go_enter Try.func33, Try.ntmps33
  go_wp2_with fail
  refine (right1_any n _).mono ?_
  rintro e w1 ⟨rfl, hb1⟩
  have HB := Lib.hid hb1
  clear hb1
  go_wp2_with fail
  go_ret
  exact ⟨rfl, ((Below.refl w.heap.size w).alloc (Nat.le_refl _) _).trans (HB.out.mono (by simp))⟩
abbrev vId (node boot idn : Int) : Value := .agg #[.int .i64 node, .int .u32 boot, .int .u64 idn]
theorem id_any (node boot idn : Int) (w : World) : Calls Try.prog 36 #[vId node boot idn] w (RB w (.bool (idOk node boot idn))) := by
  have hI := Lib.hid (show idOk node boot idn = decide (1 ≤ node ∧ node ≤ 64 ∧ 1 ≤ boot ∧ 1 ≤ idn) from rfl)
  rcases Int.lt_or_le node 1 with h1 | h1
  · have hf : decide ((1 : Int) ≤ node) = false := decide_eq_false (by omega)
    go_enter Try.func36, Try.ntmps36
    go_wp2_with fail
    go_ret
    exact ⟨ret_bool (by rw [hI.out]; simp; omega), (Below.refl _ _).alloc (Nat.le_refl _) _⟩
  rcases Int.lt_or_le 64 node with h2 | h2
  · have hf : decide (node ≤ (64 : Int)) = false := decide_eq_false (by omega)
    go_enter Try.func36, Try.ntmps36
    go_wp2_with fail
    go_ret
    exact ⟨ret_bool (by rw [hI.out]; simp; omega), (Below.refl _ _).alloc (Nat.le_refl _) _⟩
  rcases Int.lt_or_le boot 1 with h3 | h3
  · have hf : decide ((1 : Int) ≤ boot) = false := decide_eq_false (by omega)
    go_enter Try.func36, Try.ntmps36
    go_wp2_with fail
    go_ret
    exact ⟨ret_bool (by rw [hI.out]; simp; omega), (Below.refl _ _).alloc (Nat.le_refl _) _⟩
  rcases Int.lt_or_le idn 1 with h4 | h4
  · have hf : decide ((1 : Int) ≤ idn) = false := decide_eq_false (by omega)
    go_enter Try.func36, Try.ntmps36
    go_wp2_with fail
    go_ret
    exact ⟨ret_bool (by rw [hI.out]; simp; omega), (Below.refl _ _).alloc (Nat.le_refl _) _⟩
  · go_enter Try.func36, Try.ntmps36
    go_wp2_with fail
    go_ret
    exact ⟨ret_bool (by rw [hI.out]; simp; omega), (Below.refl _ _).alloc (Nat.le_refl _) _⟩
theorem good2 (k node boot idn : Int) (w : World) : Calls Try.prog 35 #[vI k node boot idn] w (RB w (.bool (idOk node boot idn))) := by
  have HR := Lib.hid (id_any node boot idn)
  generalize idOk node boot idn = d at *
  go_enter Try.func35, Try.ntmps35
  go_wp2_with fail
  refine (HR.out _).mono ?_
  rintro e w1 ⟨rfl, hb1⟩
  have HB := Lib.hid hb1
  clear hb1
  go_wp2_with fail
  go_ret
  exact ⟨rfl, ((Below.refl w.heap.size w).alloc (Nat.le_refl _) _).trans (HB.out.mono (by simp))⟩
theorem good3 (cs : Array Value) (w : World) : Calls Try.prog 37 #[.agg cs] w (RB w (.bool true)) := by
  go_enter Try.func37, Try.ntmps37
  go_wp2_with fail
  go_ret
  exact ⟨rfl, (Below.refl _ _).alloc (Nat.le_refl _) _⟩


/-- how a search's round ends: the byte is one of a name's -/
def tmnameRel (s : ByteArray) (r i : Value) : Prop := ∃ k : Nat, k ≤ s.size ∧ i = .int .i64 k ∧ r = .bool false ∧ okTo s k
set_option maxHeartbeats 1000000 in
theorem tmname_any (s : ByteArray) (w : World) (hs : s.size ≤ maxLen) :
    Calls Try.prog 44 #[.string s] w (RB w (.bool (nameB s))) := by
  unfold maxLen at hs
  by_cases h0 : s.size = 0
  · have hl := toList_nil h0
    go_enter Try.func44, Try.ntmps44
    go_wp2
    go_ret
    exact ⟨ret_bool (nameB_empty h0).symm, Below.refl _ _⟩
  · have hpos : 0 < s.size := by omega
    have hl := isEmpty_false h0
    by_cases h32 : 32 < s.size
    · go_enter Try.func44, Try.ntmps44
      go_wp2
      go_ret
      exact ⟨ret_bool (nameB_long h32).symm, Below.refl _ _⟩
    · have kc := Lib.run_convert_string_bytes (P := Try.prog) w 9 22 5 s Try.underlying9 Try.underlying22 Try.underlying5
      have hcell := Lib.bytesWorld_cell w 5 s
      have HB := Lib.hid (below_bytesWorld w 5 s)
      by_cases h1 : small (s.data.toList.getD 0 0).toNat = true
      · have HS := Lib.hid h1
        rw [getD_at s hpos] at h1
        simp [small] at h1
        have h1a : 97 ≤ ((s[0]'hpos).toNat : Int) := by have := h1.1; show 97 ≤ ((s.data[0]'hpos).toNat : Int); omega
        have h1b : ((s[0]'hpos).toNat : Int) ≤ 122 := by have := h1.2; show ((s.data[0]'hpos).toNat : Int) ≤ 122; omega
        clear h1
        go_enter Try.func44, Try.ntmps44
        go_wp2
        go_loop [2, 4, 26] (fun r _ i => tmnameRel s r i) (fun _ _ i => s.size - (intOf i).toNat)
        case atStart => exact ⟨0, Nat.zero_le _, rfl, rfl, okTo_zero s⟩
        case round =>
          obtain ⟨k, hk, rfl, rfl, hall⟩ := hrel
          have HA := Lib.hid hall
          clear hall
          by_cases hlt : k < s.size
          · have hc := hcell k hlt
            have HG := Lib.hid (getD_at s hlt)
            clear hcell
            rcases classes ((s.data[k]'hlt).toNat : Int) (by omega) with ⟨c1, c2, c3, d1, d2, d3⟩ | ⟨c1, c2, c3, d1, d2, d3⟩ | ⟨c1, c2, c3, d1, d2, d3⟩ | ⟨c1, c2, c3, d1, d2, d3⟩ | ⟨c1, c2, c3, d1, d2, d3⟩ | ⟨c1, c2, c3, d1, d2, d3⟩ | ⟨c1, c2, c3, d1, d2, d3⟩ | ⟨c1, c2, c3, d1, d2, d3⟩ | ⟨c1, c2, c3, d1, d2, d3⟩
            all_goals
              have C3 := Lib.hid c3
              go_wp2
              first
              | (go_ret
                 exact ⟨ret_bool (nameB_bad hlt (by rw [HG.out]; exact okb_not (by omega) (by omega) (by omega) (beq_eq_false_iff_ne.1 C3.out))).symm, HB.out⟩)
              | (go_round
                 case rel => exact ⟨k + 1, by omega, by go_num, rfl, okTo_succ HA.out (by rw [HG.out]; first | exact okb_of (by omega) | exact okb_of (.inr (.inr (.inr (beq_iff_eq.1 C3.out)))))⟩
                 case measure => simp [intOf]; omega)
          · go_wp2
            go_ret
            exact ⟨ret_bool (nameB_true hpos (by omega) HS.out (by obtain rfl : k = s.size := by omega
                                                                   exact HA.out)).symm, HB.out⟩
      · have h1' : small (s.data.toList.getD 0 0).toNat = false := by simpa using h1
        have HS := Lib.hid h1'
        rw [getD_at s hpos] at h1
        simp [small] at h1
        clear h1' hcell kc
        have h1' : 97 ≤ ((s[0]'hpos).toNat : Int) → 122 < ((s[0]'hpos).toNat : Int) := fun h => by
          have h3 : 97 ≤ ((s.data[0]'hpos).toNat : Int) := h
          show 122 < ((s.data[0]'hpos).toNat : Int)
          have := h1 (by omega)
          omega
        by_cases hlow : 97 ≤ ((s[0]'hpos).toNat : Int)
        · have h2 := h1' hlow
          clear h1 h1'
          go_enter Try.func44, Try.ntmps44
          go_wp2
          go_ret
          exact ⟨ret_bool (nameB_first HS.out).symm, Below.refl _ _⟩
        · clear h1 h1'
          go_enter Try.func44, Try.ntmps44
          go_wp2
          go_ret
          exact ⟨ret_bool (nameB_first HS.out).symm, Below.refl _ _⟩
end Go.Proofs.Ytkpeelhanmekdaa.G
