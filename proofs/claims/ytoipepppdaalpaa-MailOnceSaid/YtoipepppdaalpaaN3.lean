/- A message taken out of the queue: lemmas. -/
import Derived.Test.YtoipepppdaalpaaN1
import Derived.Deep.RegionHeld3
import Derived.Deep.DeepCutAuto
import Derived.RangeFuncBox
import Derived.IntWalk
namespace Go.Proofs.Ytoipepppdaalpaa
open Go.RowKit
attribute [local go_sem] run_store_complex

theorem flat_get : ∀ (ms : List Int) (i j : Nat) (hi : i < ms.length) (_ : j < 9), (flat ms)[i * 9 + j]? = (tmC 1 ms[i]).toList[j]?
  | [], _, _, hi, _ => by simp at hi
  | m :: ms, 0, j, _, hj => by
    have e : flat (m :: ms) = (tmC 1 m).toList ++ flat ms := by simp [flat]
    rw [e, Nat.zero_mul, Nat.zero_add, List.getElem?_append_left (by simpa using hj)]
    rfl
  | m :: ms, i + 1, j, hi, hj => by
    have e : flat (m :: ms) = (tmC 1 m).toList ++ flat ms := by simp [flat]
    have := flat_get ms i j (by simpa using hi) hj
    rw [e, List.getElem?_append_right (by simp; omega)]
    rw [show (i + 1) * 9 + j - (tmC 1 m).toList.length = i * 9 + j by simp; omega, this]
    rfl
/-- a term in the midst of a block -/
def TmIn (w : World) (b o : Nat) (k n : Int) : Prop := w.cell? ⟨b, o, none⟩ = some (.int .i64 k) ∧ w.cell? ⟨b, o + 1, none⟩ = some (.int .i64 n) ∧ w.cell? ⟨b, o + 2, none⟩ = some (.complex .f64 0 0) ∧ w.cell? ⟨b, o + 3, none⟩ = some (.string ⟨#[]⟩) ∧
  w.cell? ⟨b, o + 4, none⟩ = some (.int .i64 0) ∧ w.cell? ⟨b, o + 5, none⟩ = some (.int .u32 0) ∧ w.cell? ⟨b, o + 6, none⟩ = some (.int .u64 0) ∧ w.cell? ⟨b, o + 7, none⟩ = some (.slice none 0 0) ∧ w.cell? ⟨b, o + 8, none⟩ = some (.slice none 0 0)
theorem owns_term {B g cap : Nat} {w : World} {ms : List Int} (h : w.ownsRow B 35 9 (.slice (some ⟨g, 0, none⟩) ms.length cap) ms.length (flat ms)) {i : Nat} (hi : i < ms.length) : TmIn w g (i * 9) 1 ms[i] := by
  have c : ∀ j, j < 9 → w.cell? ⟨g, i * 9 + j, none⟩ = (tmC 1 ms[i]).toList[j]? := fun j hj => by
    rw [h.cellAt _ (by omega), flat_get ms i j hi hj]
  exact ⟨c 0 (by omega), c 1 (by omega), c 2 (by omega), c 3 (by omega), c 4 (by omega), c 5 (by omega), c 6 (by omega), c 7 (by omega), c 8 (by omega)⟩
theorem TmIn.block {w w' : World} {b o : Nat} {k n : Int} (h : TmIn w b o k n) (e : w'.heap[b]? = w.heap[b]?) : TmIn w' b o k n := by
  have c : ∀ o, w'.cell? ⟨b, o, none⟩ = w.cell? ⟨b, o, none⟩ := fun o => World.cell?_of_block (w := w) e
  unfold TmIn
  simp only [c]
  exact h
theorem slice_to9 (w : World) (g n c k : Nat) (h : k ≤ c) : (Instr.slice 33 (.slice (some ⟨g, 0, none⟩) n c) none (some (.int .i64 k)) none).run Try.prog w = .ok (.slice (some ⟨g, 0, none⟩) k c) w := by
  have hk : ((k : Int)).toNat = k := by omega
  rw [run_slice_h (w := w) 33 (some ⟨g, 0, none⟩) n c (by kernel_rfl) .i64 k (by omega) (by omega), show Try.prog.elem 33 = 35 from by kernel_rfl, Try.sizeOf35]
  simp [Result.andThen, sliced, hk, Addr.add]
theorem slice_from9 (g n c k : Nat) (h : k ≤ n) (hn : n ≤ c) : ∃ ad : Addr, (k < n → ad = ⟨g, k * 9, none⟩) ∧ ∀ w : World, (Instr.slice 33 (.slice (some ⟨g, 0, none⟩) n c) (some (.int .i64 ((k : Nat) : Int))) none none).run Try.prog w = .ok (.slice (some ad) (n - k) (c - k)) w := by
  have hk : ((k : Int)).toNat = k := by omega
  refine ⟨if c - k = 0 then ⟨g, 0, none⟩ else ⟨g, k * 9, none⟩, fun h1 => by rw [if_neg (by omega)], fun w => ?_⟩
  rw [run_slice_l (w := w) 33 (some ⟨g, 0, none⟩) n c (by kernel_rfl) .i64 k (by omega) (by omega), show Try.prog.elem 33 = 35 from by kernel_rfl, Try.sizeOf35]
  by_cases hc : c = k
  · simp [Result.andThen, sliced, hk, hc]
  · have hc2 : ¬ c - k = 0 := by omega
    simp [Result.andThen, sliced, hk, hc, hc2, Addr.add_lit]
theorem flat_app (a b : List Int) : flat (a ++ b) = flat a ++ flat b := List.flatMap_append
theorem flat_cut (ms : List Int) (k : Nat) : flat ms = flat (ms.take k) ++ flat (ms.drop k) := by rw [← flat_app, List.take_append_drop]
theorem flat_take (ms : List Int) (k : Nat) (hk : k ≤ ms.length) : flat (ms.take k) = (flat ms).take (k * 9) := by
  rw [flat_cut ms k, List.take_left' (by rw [flat_len]; simp; omega)]
theorem flat_drop (ms : List Int) (k : Nat) (hk : k ≤ ms.length) : flat (ms.drop k) = (flat ms).drop (k * 9) := by
  rw [flat_cut ms k, List.drop_left' (by rw [flat_len]; simp; omega)]
theorem flat_one : ∀ (ms : List Int), ∀ u ∈ flat ms, u.oneCell' = true := by
  intro ms u hu
  simp only [flat, List.mem_flatMap] at hu
  obtain ⟨n, _, hu⟩ := hu
  simp at hu
  rcases hu with rfl | rfl | rfl | rfl | rfl | rfl | rfl | rfl | rfl <;> rfl
/-- the first messages, as append reads them -/
theorem src_to {B g cap : Nat} {w w' : World} {ms : List Int} (h : w.ownsRow B 35 9 (.slice (some ⟨g, 0, none⟩) ms.length cap) ms.length (flat ms)) {k : Nat} (hk : k ≤ ms.length) (hb : w'.heap[g]? = w.heap[g]?) :
    Src Try.prog 9 33 (.slice (some ⟨g, 0, none⟩) k cap) k (flat (ms.take k)) w' := by
  refine Src.ofSlice _ Try.underlying33 _ _ _ _ (by rw [flat_len]; simp; omega) (fun j u hj => ?_) (flat_one _)
  rw [flat_take ms k hk] at hj
  obtain ⟨hlt, _⟩ := List.getElem?_eq_some_iff.1 hj
  simp at hlt
  rw [List.getElem?_take, if_pos (by omega)] at hj
  rw [Addr.add_lit, World.cell?_of_block (w := w) hb, Nat.zero_add, h.cellAt j (by omega), hj]
/-- the last messages, as append reads them -/
theorem src_from {B g cap : Nat} {w w' : World} {ms : List Int} (h : w.ownsRow B 35 9 (.slice (some ⟨g, 0, none⟩) ms.length cap) ms.length (flat ms)) {k c' : Nat} {ad : Addr} (hk : k ≤ ms.length) (had : k < ms.length → ad = ⟨g, k * 9, none⟩) (hb : w'.heap[g]? = w.heap[g]?) :
    Src Try.prog 9 33 (.slice (some ad) (ms.length - k) c') (ms.length - k) (flat (ms.drop k)) w' := by
  refine Src.ofSlice _ Try.underlying33 _ _ _ _ (by rw [flat_len]; simp) (fun j u hj => ?_) (flat_one _)
  obtain ⟨hlt, _⟩ := List.getElem?_eq_some_iff.1 hj
  rw [flat_len] at hlt
  simp at hlt
  rw [had (by omega)]
  rw [flat_drop ms k hk, List.getElem?_drop] at hj
  rw [Addr.add_lit, World.cell?_of_block (w := w) hb, h.cellAt _ (by omega), hj]
end Go.Proofs.Ytoipepppdaalpaa
