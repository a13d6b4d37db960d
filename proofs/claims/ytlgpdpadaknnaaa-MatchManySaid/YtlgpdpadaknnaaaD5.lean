/- The law MatchMany: the names. -/
import Derived.Test.YtlgpdpadaknnaaaD4
namespace Go.Proofs.Ytlgpdpadaknnaaa
open Go.RowKit Go.Maps
set_option maxRecDepth 100000
attribute [local go_sem] run_store_complex run_store_func' run_store_nilFunc'

/-- the i-th name -/
def nameOf (i : Nat) : ByteArray := ⟨#[86, UInt8.ofNat (97 + i % 26), UInt8.ofNat (97 + i / 26)]⟩
theorem nameOf_inj {i j : Nat} (hi : i ≤ 200) (hj : j ≤ 200) (h : nameOf i = nameOf j) : i = j := by
  have h2 : (nameOf i).data = (nameOf j).data := by rw [h]
  simp only [nameOf, Array.mk.injEq, List.cons.injEq, and_true, true_and] at h2
  have e1 : (97 + i % 26) % 256 = (97 + j % 26) % 256 := by
    have := congrArg UInt8.toNat h2.1
    simpa using this
  have e2 : (97 + i / 26) % 256 = (97 + j / 26) % 256 := by
    have := congrArg UInt8.toNat h2.2
    simpa using this
  omega
theorem nameOf_var {i : Nat} (hi : i ≤ 200) : VarName (nameOf i) := by
  refine ⟨(show 0 < 3 by decide), (show 3 ≤ 32 by decide), fun e => ?_, (show big (86 : UInt8).toNat = true by decide), fun j hj => ?_⟩
  · exact absurd (congrArg ByteArray.size e) (show ¬ 3 = 1 by decide)
  · have hs : (nameOf i).size = 3 := rfl
    rw [hs] at hj
    have h1 : okb (UInt8.ofNat (97 + i % 26)).toNat = true := by
      have : (UInt8.ofNat (97 + i % 26)).toNat = 97 + i % 26 := by simp; omega
      rw [this]
      simp [okb]
      omega
    have h2 : okb (UInt8.ofNat (97 + i / 26)).toNat = true := by
      have : (UInt8.ofNat (97 + i / 26)).toNat = 97 + i / 26 := by simp; omega
      rw [this]
      simp [okb]
      omega
    rcases j with _ | _ | _ | j
    · exact (show okb (86 : UInt8).toNat = true by decide)
    · exact h1
    · exact h2
    · omega
/-- the pairs -/
def qsN (n : Nat) : List (ByteArray × Int) := (List.range n).map fun i => (nameOf i, (i : Int))
theorem qsN_len (n : Nat) : (qsN n).length = n := by simp [qsN]
theorem qsN_succ (n : Nat) : qsN (n + 1) = qsN n ++ [(nameOf n, (n : Int))] := by simp [qsN, List.range_succ]
theorem qsN_mem {n : Nat} {q : ByteArray × Int} (h : q ∈ qsN n) : ∃ i, i < n ∧ q = (nameOf i, (i : Int)) := by
  obtain ⟨i, hi, rfl⟩ := List.mem_map.1 h
  exact ⟨i, List.mem_range.1 hi, rfl⟩
theorem qsN_nd {n : Nat} (hn : n ≤ 200) : ((qsN n).map (·.1)).Nodup := by
  induction n with
  | zero => simp [qsN]
  | succ n ih =>
    rw [qsN_succ, List.map_append, List.map_singleton]
    refine nodup_snoc (ih (by omega)) (fun h => ?_)
    obtain ⟨q, hq, e⟩ := List.mem_map.1 h
    obtain ⟨i, hi, rfl⟩ := qsN_mem hq
    have := nameOf_inj (by omega) (by omega) e
    omega
theorem qsN_fit {n : Nat} (hn : n ≤ 200) : fitM (qsN n) [] = some (qsN n) := by
  have := fitM_apart (qsN n) [] (by simpa using qsN_nd hn)
  simpa using this
theorem qsN_ok {n : Nat} (hn : n ≤ 200) : ∀ q ∈ qsN n, VarName q.1 ∧ inR q.2 = true := fun q hq => by
  obtain ⟨i, hi, rfl⟩ := qsN_mem hq
  refine ⟨nameOf_var (by omega), ?_⟩
  simp only [inR]
  exact decide_eq_true ⟨by omega, by omega⟩
abbrev sKn : ByteArray := ⟨#[75, 110, 111, 119, 110]⟩
abbrev sk : ByteArray := ⟨#[107]⟩
abbrev knB (b : Bool) : List Bd := if b then [⟨sKn, 3, 0, sk⟩] else []
theorem okTo5 {a b c d e : UInt8} (h1 : okb a.toNat = true) (h2 : okb b.toNat = true) (h3 : okb c.toNat = true) (h4 : okb d.toNat = true) (h5 : okb e.toNat = true) : okTo ⟨#[a, b, c, d, e]⟩ 5 := fun j hj => by
  rcases j with _ | _ | _ | _ | _ | j
  · exact h1
  · exact h2
  · exact h3
  · exact h4
  · exact h5
  · omega
theorem knB_binds (b : Bool) : Binds (knB b) := by
  cases b with
  | false => exact no_binds
  | true =>
    refine ⟨(show ([sKn] : List ByteArray).Nodup by simp), fun x hx => ?_, fun x hx => ?_, (show 1 ≤ 64 by decide)⟩
    · have hx2 : x ∈ [(⟨sKn, 3, 0, sk⟩ : Bd)] := hx
      rw [List.mem_singleton] at hx2
      subst hx2
      exact ⟨by decide, by decide, fun e => by have := congrArg ByteArray.size e; exact absurd this (by decide), by decide, okTo5 (by decide) (by decide) (by decide) (by decide) (by decide)⟩
    · have hx2 : x ∈ [(⟨sKn, 3, 0, sk⟩ : Bd)] := hx
      rw [List.mem_singleton] at hx2
      subst hx2
      exact right_atom sk (by decide)
theorem knB_new (b : Bool) {n : Nat} : ∀ q ∈ qsN n, q.1 ∉ (knB b).map Bd.nm := fun q hq h => by
  obtain ⟨i, hi, rfl⟩ := qsN_mem hq
  cases b with
  | false => simp at h
  | true =>
    have h2 : nameOf i ∈ [sKn] := h
    rw [List.mem_singleton] at h2
    exact absurd (congrArg ByteArray.size h2) (show ¬ 3 = 5 by decide)
/-- two slices apart: one has grown -/
theorem two_step {w wa wz : World} {o : Obj} {v v4 u : Value} {n k e size : Nat} {xs ys : List Value} (hB : Below w.heap.size w wa) (hu : wa.ownsRow w.heap.size e size u k ys) (hv : wa.ownsRow w.heap.size e size v n xs) (hd : ∀ b, v.ownBlock = some b → u.ownBlock ≠ some b)
    (hg : (wa.alloc o).grownBy wz v.ownBlock) (hl : v4.ownBlock = v.ownBlock ∨ v4.ownBlock = some (wa.alloc o).heap.size) :
    Below w.heap.size w wz ∧ wz.ownsRow w.heap.size e size u k ys ∧ (∀ b, v4.ownBlock = some b → u.ownBlock ≠ some b) := by
  refine ⟨grown_below hB hB.size hv hg, row_same hu (fun b eb hb => (hg.block b (by simp; omega) (fun h => hd b h.symm eb)).trans (Below.heap_alloc wa o b hb)), fun b eb => ?_⟩
  rcases hl with h | h
  · exact hd b (h ▸ eb)
  · rw [h] at eb
    cases eb
    intro h2
    have := (hu.lt _ h2).2
    simp at this
    omega
end Go.Proofs.Ytlgpdpadaknnaaa
