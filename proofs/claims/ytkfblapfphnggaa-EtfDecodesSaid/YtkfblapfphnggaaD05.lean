/- Several texts in one. -/
import Derived.Test.YtkfblapfphnggaaD04
import Derived.Test.YtkfblapfphnggaaD02
/- The closures of the table of kinds, at the terms that are right but for their own field. -/
namespace Go.Proofs.Ytkfblapfphnggaa
open Go.RowKit
set_option maxRecDepth 100000
attribute [local go_sem] run_store_complex

abbrev vZ (k : Int) : Value := .agg #[.int .i64 k, .int .i64 0, .complex .f64 0 0, .string ⟨#[]⟩, .int .i64 0, .int .u32 0, .int .u64 0, nilV, nilV]
abbrev vA (s : ByteArray) : Value := .agg #[.int .i64 3, .int .i64 0, .complex .f64 0 0, .string s, .int .i64 0, .int .u32 0, .int .u64 0, nilV, nilV]
abbrev vI (k node boot idn : Int) : Value := .agg #[.int .i64 k, .int .i64 0, .complex .f64 0 0, .string ⟨#[]⟩, .int .i64 node, .int .u32 boot, .int .u64 idn, nilV, nilV]
abbrev vL (k : Int) (lv : Value) : Value := .agg #[.int .i64 k, .int .i64 0, .complex .f64 0 0, .string ⟨#[]⟩, .int .i64 0, .int .u32 0, .int .u64 0, nilV, lv]
abbrev vB (bv : Value) : Value := .agg #[.int .i64 8, .int .i64 0, .complex .f64 0 0, .string ⟨#[]⟩, .int .i64 0, .int .u32 0, .int .u64 0, bv, nilV]
/-- a part without its own field: of an int, a complex number, an atom, an id, a list, bytes -/
theorem bare6 (n : Int) (w : World) : Calls Try.prog 48 #[v1 n] w (RB w (vZ 1)) := by
  go_enter Try.func48, Try.ntmps48
  go_wp2_with fail
  exact bodyPost_ret (v := vZ 1) (by simp [results, Try.results48, go_sem]) rfl ⟨rfl, ((Below.refl w.heap.size w).alloc (Nat.le_refl _) _).alloc (by simp) _⟩
theorem bare7 (p q : Nat) (w : World) : Calls Try.prog 49 #[v2 p q] w (RB w (vZ 2)) := by
  go_enter Try.func49, Try.ntmps49
  go_wp2_with fail
  exact bodyPost_ret (v := vZ 2) (by simp [results, Try.results49, go_sem]) rfl ⟨rfl, ((Below.refl w.heap.size w).alloc (Nat.le_refl _) _).alloc (by simp) _⟩
theorem bare8 (s : ByteArray) (w : World) : Calls Try.prog 50 #[vA s] w (RB w (vZ 3)) := by
  go_enter Try.func50, Try.ntmps50
  go_wp2_with fail
  exact bodyPost_ret (v := vZ 3) (by simp [results, Try.results50, go_sem]) rfl ⟨rfl, ((Below.refl w.heap.size w).alloc (Nat.le_refl _) _).alloc (by simp) _⟩
theorem bare4 (k node boot idn : Int) (w : World) : Calls Try.prog 46 #[vI k node boot idn] w (RB w (vZ k)) := by
  go_enter Try.func46, Try.ntmps46
  go_wp2_with fail
  exact bodyPost_ret (v := vZ k) (by simp [results, Try.results46, go_sem]) rfl ⟨rfl, ((Below.refl w.heap.size w).alloc (Nat.le_refl _) _).alloc (by simp) _⟩
theorem bare5 (k : Int) (a : Option Addr) (n c : Nat) (w : World) : Calls Try.prog 47 #[vL k (.slice a n c)] w (RB w (vZ k)) := by
  go_enter Try.func47, Try.ntmps47
  go_wp2_with fail
  exact bodyPost_ret (v := vZ k) (by simp [results, Try.results47, go_sem]) rfl ⟨rfl, ((Below.refl w.heap.size w).alloc (Nat.le_refl _) _).alloc (by simp) _⟩
theorem bare10 (a : Option Addr) (n c : Nat) (w : World) : Calls Try.prog 53 #[vB (.slice a n c)] w (RB w (vZ 8)) := by
  go_enter Try.func53, Try.ntmps53
  go_wp2_with fail
  exact bodyPost_ret (v := vZ 8) (by simp [results, Try.results53, go_sem]) rfl ⟨rfl, ((Below.refl w.heap.size w).alloc (Nat.le_refl _) _).alloc (by simp) _⟩
theorem empty_any (k : Int) (w : World) : Calls Try.prog 54 #[vZ k] w (RB w (.bool true)) := by
  have hcx := cx_eql
  go_enter Try.func54, Try.ntmps54
  go_wp2_with fail
  go_ret
  exact ⟨rfl, (Below.refl _ _).alloc (Nat.le_refl _) _⟩
theorem good1a (n : Int) (w : World) : Calls Try.prog 42 #[v1 n] w (RB w (.bool (inR n))) := by
  go_enter Try.func42, Try.ntmps42
  go_wp2_with fail
  refine (right1_any n _).mono ?_
  rintro e w1 ⟨rfl, hb1⟩
  have HB := Lib.hid hb1
  clear hb1
  go_wp2_with fail
  go_ret
  exact ⟨rfl, ((Below.refl w.heap.size w).alloc (Nat.le_refl _) _).trans (HB.out.mono (by simp))⟩
theorem good1b (p q : Nat) (hp : p < 18446744073709551616) (hq : q < 18446744073709551616) (w : World) : Calls Try.prog 42 #[v2 p q] w (RB w (.bool (okF p && okF q))) := by
  have HR := Lib.hid (right2_any p q hp hq)
  clear hp hq
  generalize (okF p && okF q) = d at *
  go_enter Try.func42, Try.ntmps42
  go_wp2_with fail
  refine (HR.out _).mono ?_
  rintro e w1 ⟨rfl, hb1⟩
  have HB := Lib.hid hb1
  clear hb1
  go_wp2_with fail
  go_ret
  exact ⟨rfl, ((Below.refl w.heap.size w).alloc (Nat.le_refl _) _).trans (HB.out.mono (by simp))⟩
abbrev vId (node boot idn : Int) : Value := .agg #[.int .i64 node, .int .u32 boot, .int .u64 idn]
theorem id_any (node boot idn : Int) (w : World) : Calls Try.prog 44 #[vId node boot idn] w (RB w (.bool (idOk node boot idn))) := by
  have hI := Lib.hid (show idOk node boot idn = decide (1 ≤ node ∧ node ≤ 64 ∧ 1 ≤ boot ∧ 1 ≤ idn) from rfl)
  rcases Int.lt_or_le node 1 with h1 | h1
  · have hf : decide ((1 : Int) ≤ node) = false := decide_eq_false (by omega)
    go_enter Try.func44, Try.ntmps44
    go_wp2_with fail
    go_ret
    exact ⟨ret_bool (by rw [hI.out]; simp; omega), (Below.refl _ _).alloc (Nat.le_refl _) _⟩
  rcases Int.lt_or_le 64 node with h2 | h2
  · have hf : decide (node ≤ (64 : Int)) = false := decide_eq_false (by omega)
    go_enter Try.func44, Try.ntmps44
    go_wp2_with fail
    go_ret
    exact ⟨ret_bool (by rw [hI.out]; simp; omega), (Below.refl _ _).alloc (Nat.le_refl _) _⟩
  rcases Int.lt_or_le boot 1 with h3 | h3
  · have hf : decide ((1 : Int) ≤ boot) = false := decide_eq_false (by omega)
    go_enter Try.func44, Try.ntmps44
    go_wp2_with fail
    go_ret
    exact ⟨ret_bool (by rw [hI.out]; simp; omega), (Below.refl _ _).alloc (Nat.le_refl _) _⟩
  rcases Int.lt_or_le idn 1 with h4 | h4
  · have hf : decide ((1 : Int) ≤ idn) = false := decide_eq_false (by omega)
    go_enter Try.func44, Try.ntmps44
    go_wp2_with fail
    go_ret
    exact ⟨ret_bool (by rw [hI.out]; simp; omega), (Below.refl _ _).alloc (Nat.le_refl _) _⟩
  · go_enter Try.func44, Try.ntmps44
    go_wp2_with fail
    go_ret
    exact ⟨ret_bool (by rw [hI.out]; simp; omega), (Below.refl _ _).alloc (Nat.le_refl _) _⟩
theorem refid_any (node boot idn : Int) (w : World) : Calls Try.prog 37 #[vId node boot idn] w (RB w (.bool (idOk node boot idn))) := by
  have hI := Lib.hid (show idOk node boot idn = decide (1 ≤ node ∧ node ≤ 64 ∧ 1 ≤ boot ∧ 1 ≤ idn) from rfl)
  rcases Int.lt_or_le 0 node with h1 | h1
  · rcases Int.lt_or_le 64 node with h2 | h2
    · have hf : decide (node ≤ (64 : Int)) = false := decide_eq_false (by omega)
      go_enter Try.func37, Try.ntmps37
      go_wp2_with fail
      go_ret
      exact ⟨ret_bool (by rw [hI.out]; simp; omega), (Below.refl _ _).alloc (Nat.le_refl _) _⟩
    rcases Int.lt_or_le 0 boot with h3 | h3
    · rcases Int.lt_or_le 0 idn with h4 | h4
      · go_enter Try.func37, Try.ntmps37
        go_wp2_with fail
        go_ret
        exact ⟨ret_bool (by rw [hI.out]; simp; omega), (Below.refl _ _).alloc (Nat.le_refl _) _⟩
      · have hf : decide ((0 : Int) < idn) = false := decide_eq_false (by omega)
        go_enter Try.func37, Try.ntmps37
        go_wp2_with fail
        go_ret
        exact ⟨ret_bool (by rw [hI.out]; simp; omega), (Below.refl _ _).alloc (Nat.le_refl _) _⟩
    · have hf : decide ((0 : Int) < boot) = false := decide_eq_false (by omega)
      go_enter Try.func37, Try.ntmps37
      go_wp2_with fail
      go_ret
      exact ⟨ret_bool (by rw [hI.out]; simp; omega), (Below.refl _ _).alloc (Nat.le_refl _) _⟩
  · have hf : decide ((0 : Int) < node) = false := decide_eq_false (by omega)
    go_enter Try.func37, Try.ntmps37
    go_wp2_with fail
    go_ret
    exact ⟨ret_bool (by rw [hI.out]; simp; omega), (Below.refl _ _).alloc (Nat.le_refl _) _⟩
theorem good2 (k node boot idn : Int) (w : World) : Calls Try.prog 43 #[vI k node boot idn] w (RB w (.bool (idOk node boot idn))) := by
  have HR := Lib.hid (id_any node boot idn)
  generalize idOk node boot idn = d at *
  go_enter Try.func43, Try.ntmps43
  go_wp2_with fail
  refine (HR.out _).mono ?_
  rintro e w1 ⟨rfl, hb1⟩
  have HB := Lib.hid hb1
  clear hb1
  go_wp2_with fail
  go_ret
  exact ⟨rfl, ((Below.refl w.heap.size w).alloc (Nat.le_refl _) _).trans (HB.out.mono (by simp))⟩
theorem good3 (cs : Array Value) (w : World) : Calls Try.prog 45 #[.agg cs] w (RB w (.bool true)) := by
  go_enter Try.func45, Try.ntmps45
  go_wp2_with fail
  go_ret
  exact ⟨rfl, (Below.refl _ _).alloc (Nat.le_refl _) _⟩
end Go.Proofs.Ytkfblapfphnggaa
/- term.name: which strings are names. -/
namespace Go.Proofs.Ytkfblapfphnggaa
open Go.RowKit
set_option maxRecDepth 100000

/-- how a search's round ends: the byte is one of a name's -/
def tmnameRel (s : ByteArray) (r i : Value) : Prop := ∃ k : Nat, k ≤ s.size ∧ i = .int .i64 k ∧ r = .bool false ∧ okTo s k
set_option maxHeartbeats 1000000 in
theorem tmname_any (s : ByteArray) (w : World) (hs : s.size ≤ maxLen) :
    Calls Try.prog 52 #[.string s] w (RB w (.bool (nameB s))) := by
  unfold maxLen at hs
  by_cases h0 : s.size = 0
  · have hl := toList_nil h0
    go_enter Try.func52, Try.ntmps52
    go_wp2
    go_ret
    exact ⟨ret_bool (nameB_empty h0).symm, Below.refl _ _⟩
  · have hpos : 0 < s.size := by omega
    have hl := isEmpty_false h0
    by_cases h32 : 32 < s.size
    · go_enter Try.func52, Try.ntmps52
      go_wp2
      go_ret
      exact ⟨ret_bool (nameB_long h32).symm, Below.refl _ _⟩
    · have kc := Lib.run_convert_string_bytes (P := Try.prog) w 9 22 5 s Try.underlying9 Try.underlying22 Try.underlying5
      have hcell := Lib.bytesWorld_cell w 5 s
      have HB := Lib.hid (below_bytesWorld w 5 s)
      by_cases h1 : small (s.data.toList.getD 0 0).toNat = true
      · have HS := Lib.hid h1
        rw [getD_at s hpos] at h1
        simp [small] at h1
        have h1a : 97 ≤ ((s[0]'hpos).toNat : Int) := by have := h1.1; show 97 ≤ ((s.data[0]'hpos).toNat : Int); omega
        have h1b : ((s[0]'hpos).toNat : Int) ≤ 122 := by have := h1.2; show ((s.data[0]'hpos).toNat : Int) ≤ 122; omega
        clear h1
        go_enter Try.func52, Try.ntmps52
        go_wp2
        go_loop [2, 4, 26] (fun r _ i => tmnameRel s r i) (fun _ _ i => s.size - (intOf i).toNat)
        case atStart => exact ⟨0, Nat.zero_le _, rfl, rfl, okTo_zero s⟩
        case round =>
          obtain ⟨k, hk, rfl, rfl, hall⟩ := hrel
          have HA := Lib.hid hall
          clear hall
          by_cases hlt : k < s.size
          · have hc := hcell k hlt
            have HG := Lib.hid (getD_at s hlt)
            clear hcell
            rcases classes ((s.data[k]'hlt).toNat : Int) (by omega) with ⟨c1, c2, c3, d1, d2, d3⟩ | ⟨c1, c2, c3, d1, d2, d3⟩ | ⟨c1, c2, c3, d1, d2, d3⟩ | ⟨c1, c2, c3, d1, d2, d3⟩ | ⟨c1, c2, c3, d1, d2, d3⟩ | ⟨c1, c2, c3, d1, d2, d3⟩ | ⟨c1, c2, c3, d1, d2, d3⟩ | ⟨c1, c2, c3, d1, d2, d3⟩ | ⟨c1, c2, c3, d1, d2, d3⟩
            all_goals
              have C3 := Lib.hid c3
              go_wp2
              first
              | (go_ret
                 exact ⟨ret_bool (nameB_bad hlt (by rw [HG.out]; exact okb_not (by omega) (by omega) (by omega) (beq_eq_false_iff_ne.1 C3.out))).symm, HB.out⟩)
              | (go_round
                 case rel => exact ⟨k + 1, by omega, by go_num, rfl, okTo_succ HA.out (by rw [HG.out]; first | exact okb_of (by omega) | exact okb_of (.inr (.inr (.inr (beq_iff_eq.1 C3.out)))))⟩
                 case measure => simp [intOf]; omega)
          · go_wp2
            go_ret
            exact ⟨ret_bool (nameB_true hpos (by omega) HS.out (by obtain rfl : k = s.size := by omega
                                                                   exact HA.out)).symm, HB.out⟩
      · have h1' : small (s.data.toList.getD 0 0).toNat = false := by simpa using h1
        have HS := Lib.hid h1'
        rw [getD_at s hpos] at h1
        simp [small] at h1
        clear h1' hcell kc
        have h1' : 97 ≤ ((s[0]'hpos).toNat : Int) → 122 < ((s[0]'hpos).toNat : Int) := fun h => by
          have h3 : 97 ≤ ((s.data[0]'hpos).toNat : Int) := h
          show 122 < ((s.data[0]'hpos).toNat : Int)
          have := h1 (by omega)
          omega
        by_cases hlow : 97 ≤ ((s[0]'hpos).toNat : Int)
        · have h2 := h1' hlow
          clear h1 h1'
          go_enter Try.func52, Try.ntmps52
          go_wp2
          go_ret
          exact ⟨ret_bool (nameB_first HS.out).symm, Below.refl _ _⟩
        · clear h1 h1'
          go_enter Try.func52, Try.ntmps52
          go_wp2
          go_ret
          exact ⟨ret_bool (nameB_first HS.out).symm, Below.refl _ _⟩
end Go.Proofs.Ytkfblapfphnggaa
/- Right terms in memory: plain facts. -/
namespace Go.Proofs.Ytkfblapfphnggaa
open Go.RowKit
set_option maxRecDepth 100000

mutual
/-- how great a term is -/
def sizeT : Tm → Nat
  | .mk h l => 1 + h.b.length + sizeTs l
def sizeTs : List Tm → Nat
  | [] => 0
  | t :: l => sizeT t + sizeTs l
end
theorem sizeTs_app : ∀ (a b : List Tm), sizeTs (a ++ b) = sizeTs a + sizeTs b
  | [], b => by simp [sizeTs]
  | t :: a, b => by
    have := sizeTs_app a b
    simp only [List.cons_append, sizeTs, this]
    omega
theorem sizeTs_take {l : List Tm} {i : Nat} (h : i < l.length) : sizeTs (l.take (i + 1)) = sizeTs (l.take i) + sizeT l[i] := by
  rw [List.take_succ_eq_append_getElem h, sizeTs_app]
  simp [sizeTs]
theorem sizeTs_le {l : List Tm} (i : Nat) : sizeTs (l.take i) ≤ sizeTs l := by
  have := sizeTs_app (l.take i) (l.drop i)
  rw [List.take_append_drop] at this
  omega
/-- a part's own fields are right -/
inductive HdOk : Hd → List Tm → Prop
  | int (n : Int) (h : inR n = true) : HdOk { kind := 1, n := n } []
  | cx (p q : Nat) (hp : p < 18446744073709551616) (hq : q < 18446744073709551616) (h : (okF p && okF q) = true) : HdOk { kind := 2, re := p, im := q } []
  | atom (s : ByteArray) (h : nameB s = true) : HdOk { kind := 3, s := s } []
  | id (k node boot idn : Nat) (hk : k = 4 ∨ k = 5) (hn : node < 256) (hb : boot < 4294967296) (hi : idn < 18446744073709551616) (h : idOk node boot idn = true) : HdOk { kind := k, node := node, boot := boot, idn := idn } []
  | list (k : Nat) (l : List Tm) (hk : k = 6 ∨ k = 7) (h : l.length ≤ 256) : HdOk { kind := k } l
  | bytes (b : List UInt8) : HdOk { kind := 8, b := b } []
/-- a right term, so deep at most -/
def GoodT : Nat → Tm → Prop
  | 0, _ => False
  | r + 1, .mk h l => HdOk h l ∧ ∀ t ∈ l, GoodT r t
theorem Reps.len {w : World} {F : Nat → Prop} : ∀ {l : List Tm} {vs : List (Array Value)}, Reps w F l vs → vs.length = l.length
  | [], vs, h => by
    have : vs = [] := h
    subst this
    rfl
  | _ :: _, _, ⟨_, _, e, _, h⟩ => by
    subst e
    simp [h.len]
theorem Reps.at {w : World} {F : Nat → Prop} : ∀ {l : List Tm} {vs : List (Array Value)}, Reps w F l vs → ∀ (i : Nat) (h : i < l.length) (h' : i < vs.length), Rep w F l[i] vs[i]
  | [], _, _, i, h, _ => absurd h (by simp)
  | _ :: _, _, ⟨_, _, e, h1, h2⟩, 0, _, _ => by subst e; exact h1
  | _ :: l, _, ⟨_, _, e, h1, h2⟩, i + 1, h, h' => by
    subst e
    exact Reps.at h2 i (by simpa using h) (by simpa using h')
theorem cat_get : ∀ (vs : List (Array Value)), (∀ c ∈ vs, c.size = 9) → ∀ (i j : Nat) (hi : i < vs.length) (_ : j < 9), (cat vs)[i * 9 + j]? = vs[i][j]?
  | [], _, _, _, hi, _ => by simp at hi
  | c :: vs, hs, 0, j, _, hj => by
    have e : cat (c :: vs) = c.toList ++ cat vs := by simp [cat]
    have hc := hs c (by simp)
    rw [e, Nat.zero_mul, Nat.zero_add, List.getElem?_append_left (by simp; omega)]
    simp
  | c :: vs, hs, i + 1, j, hi, hj => by
    have e : cat (c :: vs) = c.toList ++ cat vs := by simp [cat]
    have hc := hs c (by simp)
    have := cat_get vs (fun d hd => hs d (by simp [hd])) i j (by simpa using hi) hj
    rw [e, List.getElem?_append_right (by simp; omega)]
    rw [show (i + 1) * 9 + j - c.toList.length = i * 9 + j by simp; omega, this]
    rfl
theorem Reps.sizes {w : World} {F : Nat → Prop} : ∀ {l : List Tm} {vs : List (Array Value)}, Reps w F l vs → ∀ c ∈ vs, c.size = 9
  | [], vs, h, c, hc => by
    have : vs = [] := h
    subst this
    simp at hc
  | _ :: _, _, ⟨d, r, e, h1, h2⟩, c, hc => by
    subst e
    rcases List.mem_cons.1 hc with rfl | hc
    · exact h1.size
    · exact h2.sizes c hc
/-- nine cells in the midst of a block -/
def NineIn (w : World) (b o : Nat) (k n : Int) (re im : Nat) (s : ByteArray) (node boot idn : Int) (bv lv : Value) : Prop :=
  w.cell? ⟨b, o, none⟩ = some (.int .i64 k) ∧ w.cell? ⟨b, o + 1, none⟩ = some (.int .i64 n) ∧ w.cell? ⟨b, o + 2, none⟩ = some (.complex .f64 re im) ∧ w.cell? ⟨b, o + 3, none⟩ = some (.string s) ∧
  w.cell? ⟨b, o + 4, none⟩ = some (.int .i64 node) ∧ w.cell? ⟨b, o + 5, none⟩ = some (.int .u32 boot) ∧ w.cell? ⟨b, o + 6, none⟩ = some (.int .u64 idn) ∧ w.cell? ⟨b, o + 7, none⟩ = some bv ∧ w.cell? ⟨b, o + 8, none⟩ = some lv
theorem NineIn.block {w w' : World} {b o : Nat} {k n : Int} {re im : Nat} {s : ByteArray} {node boot idn : Int} {bv lv : Value} (h : NineIn w b o k n re im s node boot idn bv lv) (e : w'.heap[b]? = w.heap[b]?) : NineIn w' b o k n re im s node boot idn bv lv := by
  have c : ∀ o, w'.cell? ⟨b, o, none⟩ = w.cell? ⟨b, o, none⟩ := fun o => World.cell?_of_block (w := w) e
  unfold NineIn
  simp only [c]
  exact h
/-- a part of a row of parts -/
theorem Row.nine {w : World} {F : Nat → Prop} {lv : Value} {l : List Tm} {vs : List (Array Value)} (h : Row w F 31 9 lv l.length (cat vs)) (hr : Reps w F l vs) {i : Nat} (hi : i < l.length) :
    ∃ g cap, lv = .slice (some ⟨g, 0, none⟩) l.length cap ∧ F g ∧ ∃ hd bv pv, Rep w F l[i] (hdC hd bv pv) ∧ (∃ l2, l[i] = .mk hd l2) ∧ NineIn w g (i * 9) hd.kind hd.n hd.re hd.im hd.s hd.node hd.boot hd.idn bv pv := by
  have hvl := hr.len
  have hrep := hr.at i hi (by omega)
  rcases h.1.2 with ⟨_, h0⟩ | ⟨g, cap, cur, hv, _, hh, _⟩
  · omega
  subst hv
  refine ⟨g, cap, rfl, h.2.1 g rfl, ?_⟩
  have c : ∀ j, j < 9 → w.cell? ⟨g, i * 9 + j, none⟩ = (vs[i]'(by omega))[j]? := fun j hj => by
    have hs := hr.sizes
    rw [← cat_get vs hs i j (by omega) hj]
    have hlen : (cat vs).length = l.length * 9 := h.1.1
    have hlt : i * 9 + j < (cat vs).length := by omega
    have := h.1.cells (g := g) rfl (i * 9 + j) (cat vs)[i * 9 + j] (List.getElem?_eq_getElem hlt)
    rw [List.getElem?_eq_getElem hlt, ← this]
    simp [Addr.add_lit]
  generalize vs[i]'(by omega) = cs at *
  generalize l[i] = t at *
  obtain ⟨hd, l2⟩ := t
  obtain ⟨bv, pv, e, h1, h2⟩ := hrep
  subst e
  exact ⟨hd, bv, pv, ⟨bv, pv, rfl, h1, h2⟩, ⟨l2, rfl⟩, c 0 (by omega), c 1 (by omega), c 2 (by omega), c 3 (by omega), c 4 (by omega), c 5 (by omega), c 6 (by omega), c 7 (by omega), c 8 (by omega)⟩
end Go.Proofs.Ytkfblapfphnggaa
