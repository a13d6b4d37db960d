/- Slices of numbers of 32 bits that came in. -/
import Derived.Test.YtdlcbejgadmdcaaS4
import Derived.Test.YtdlcbejgadmdcaaL3
import Derived.SizedLaws
namespace Go.Proofs.Ytdlcbejgadmdcaa
open Go.RowKit Go.ChangeShapes Go.WideShapes

theorem listU : ∀ zs : List Int, (∀ n ∈ zs, (Lit.int .u32 n).wf = true) → ∃ l : List U, l.map (·.1) = zs
  | [], _ => ⟨[], rfl⟩
  | z :: zs, h => by
    obtain ⟨l, hl⟩ := listU zs (fun n hn => h n (List.mem_cons_of_mem _ hn))
    have hz := h z (by simp)
    simp [Lit.wf, IntKind.min, IntKind.max, IntKind.signed, IntKind.bits] at hz
    exact ⟨⟨z, by omega⟩ :: l, by simp [hl]⟩
theorem slU_open {H : Type} {enc : TypeId × Value → H} {w : World} {x : Option Addr} {len cap : Nat} {d : DataW H} {ps : List MemPlace}
    (h : DataW.Trod enc Try.prog w 0 (fun _ => true) true 29 (.slice x len cap) d ps) :
    ∃ l : List U, l.length = len ∧ Sl w (.slice x len cap) (l.map encU) ∧ (len = 0 ∨ ∃ a b, d = .slice a b ∧ a.length = len) := by
  obtain ⟨zs, hz, _, hs, hw, hd⟩ := sl_open Try.underlying29 Try.underlying22 (by kernel_rfl) h
  obtain ⟨l, hl⟩ := listU zs hw
  refine ⟨l, by rw [← hz, ← hl]; simp, ?_, hd⟩
  have e : l.map encU = zs.map (Value.int .u32) := by rw [← hl, List.map_map]; rfl
  rw [e]
  exact hs
/-- what is handed in takes no more bytes than there are -/
theorem reachU {H : Type} {P : Program} {ts : List TypeId} {ds : List (DataW H)} {j len : Nat} {T e : TypeId} {d : DataW H} (hsz : (DataW.weightsEach P ts ds).all (· ≤ reachBytes) = true) (ht : ts[j]? = some T) (hd : ds[j]? = some d) (hu : P.underlying T = some (.slice e)) (hb : P.bytesOf e = 4)
    (h : len = 0 ∨ ∃ a b, d = .slice a b ∧ a.length = len) : len * 4 ≤ 140737488355328 := by
  rcases h with rfl | ⟨a, b, rfl, rfl⟩
  · simp
  · have := sized_slice hsz ht hd hu
    rw [hb] at this
    have hr : reachBytes ≤ 140737488355328 := by decide
    have h2 : a.length * 4 ≤ (a.length + b.length) * 4 := Nat.mul_le_mul_right _ (by omega)
    omega
end Go.Proofs.Ytdlcbejgadmdcaa
