/- A script of calls handed in: what memory holds. -/
import Derived.Test.YtdogfkjdoldpiaaB6
import Derived.Test.YtdogfkjdoldpiaaL3
import Derived.Deep.Slices
namespace Go.Proofs.Ytdogfkjdoldpiaa
open Go.RowKit Go.ChangeShapes Go.WideShapes

/-- a call: its kind, its number, its text -/
structure OpV where
  kind : Int
  n : Int
  s : ByteArray
instance : Inhabited OpV := ⟨⟨0, 0, ByteArray.empty⟩⟩
/-- three cells hold a call -/
def OpAt (W : World) (b off : Nat) (o : OpV) : Prop := W.cell? ⟨b, off, none⟩ = some (.int .i64 o.kind) ∧ W.cell? ⟨b, off + 1, none⟩ = some (.int .i64 o.n) ∧ W.cell? ⟨b, off + 2, none⟩ = some (.string o.s)
/-- v is a slice that holds the calls ops -/
def Ops (W : World) (v : Value) (ops : List OpV) : Prop :=
  ∃ a c, v = .slice a ops.length c ∧ ops.length ≤ 9223372036854775807 ∧ (0 < ops.length → ∃ b off, a = some ⟨b, off, none⟩ ∧ ∀ j, (h : j < ops.length) → OpAt W b (off + j * 3) ops[j])
theorem ops_open {H : Type} {enc : TypeId × Value → H} {w : World} {x : Option Addr} {len cap : Nat} {d : DataW H} {ps : List MemPlace}
    (h : DataW.Trod enc Try.prog w 0 (fun _ => true) true 38 (.slice x len cap) d ps) :
    ∃ ops, Ops w (.slice x len cap) ops ∧ ∀ o ∈ ops, o.s.size ≤ maxLen ∧ (Lit.int .i64 o.kind).wf = true ∧ (Lit.int .i64 o.n).wf = true := by
  obtain ⟨fuel, hf⟩ := h
  have e : (Value.slice x len cap).cells.toList = [.slice x len cap] := rfl
  obtain ⟨f0, f1, f2, hu, o0, o1, o2, t0, t1, t2⟩ : ∃ f0 f1 f2 : Field, Try.prog.underlying 40 = some (.struct #[f0, f1, f2]) ∧ f0.offset = 0 ∧ f1.offset = 1 ∧ f2.offset = 2 ∧ f0.type = 3 ∧ f1.type = 3 ∧ f2.type = 9 :=
    ⟨_, _, _, Try.underlying40, rfl, rfl, rfl, rfl, rfl, rfl⟩
  have ce : Try.prog.cellsOf 40 = 3 := by kernel_rfl
  have ci : Try.prog.cellsOf 3 = 1 := by kernel_rfl
  have cs : Try.prog.cellsOf 9 = 1 := by kernel_rfl
  rcases Go.Deep.open_slice Try.underlying38 hf with ⟨hcs, _⟩ | ⟨a, len', cap', m, n, D, Pl, hcs, _, hl, hm, hmm, _, hx⟩
  · rw [e] at hcs
    cases hcs
    exact ⟨[], ⟨none, 0, rfl, by simp, fun h => by simp at h⟩, by simp⟩
  · rw [e] at hcs
    cases hcs
    have hlm : len ≤ m := by rw [hmm, if_pos rfl]; exact hl
    have each : ∀ i, i < len → ∃ o : OpV, (w.cell? (a.add (i * 3)) = some (.int .i64 o.kind) ∧ w.cell? (a.add (i * 3 + 1)) = some (.int .i64 o.n) ∧ w.cell? (a.add (i * 3 + 2)) = some (.string o.s)) ∧
        o.s.size ≤ maxLen ∧ (Lit.int .i64 o.kind).wf = true ∧ (Lit.int .i64 o.n).wf = true := by
      intro i hi
      obtain ⟨cs', h1, h2⟩ := hx i (by omega)
      rw [ce] at h1
      obtain ⟨_, hlen, hcell⟩ := World.cells?_some h1
      obtain ⟨xs, k, hk, hxy, _, hxl, hfl⟩ := DataW.trod_struct hu h2
      match xs, hxl, cs', hlen with
      | [y0, y1, y2], _, [v0, v1, v2], _ =>
        have g0 := hfl 0 f0 rfl
        have g1 := hfl 1 f1 rfl
        have g2 := hfl 2 f2 rfl
        simp [o0, o1, o2, t0, t1, t2, ci, cs] at g0 g1 g2
        have e0 := hcell 0 (by omega)
        have e1 := hcell 1 (by omega)
        have e2 := hcell 2 (by omega)
        rw [Go.Deep.add_add] at e0 e1 e2
        obtain ⟨k0, q0, _, w0⟩ := DataW.trod_int Try.underlying3 g0
        obtain ⟨k1, q1, _, w1⟩ := DataW.trod_int Try.underlying3 g1
        obtain ⟨s2, q2, _, w2⟩ := DataW.trod_string Try.underlying9 g2
        cases q0
        cases q1
        cases q2
        exact ⟨⟨k0, k1, s2⟩, ⟨by simpa using e0, by simpa using e1, by simpa using e2⟩, w2, w0, w1⟩
    obtain ⟨q, hq⟩ := Go.Deep.choose_lt each
    have hml : maxLen ≤ 9223372036854775807 := by decide
    refine ⟨(List.range len).map q, ⟨some a, cap, by simp, by simp; omega, fun h0 => ?_⟩, ?_⟩
    · simp at h0
      have h1 := (hq 0 h0).1.1
      have hs0 := World.cell?_spot h1
      obtain ⟨b, off, spot⟩ := a
      have : spot = none := by cases spot <;> simp_all [Addr.add]
      subst this
      refine ⟨b, off, rfl, fun j hj => ?_⟩
      have hj2 : j < len := by simpa using hj
      have hc := (hq j hj2).1
      simp only [Addr.add_lit, List.getElem_map, List.getElem_range, OpAt] at hc ⊢
      refine ⟨hc.1, ?_, ?_⟩
      · rw [show off + j * 3 + 1 = off + (j * 3 + 1) by omega]; exact hc.2.1
      · rw [show off + j * 3 + 2 = off + (j * 3 + 2) by omega]; exact hc.2.2
    · intro o ho
      simp only [List.mem_map, List.mem_range] at ho
      obtain ⟨i, hi, rfl⟩ := ho
      exact (hq i hi).2
end Go.Proofs.Ytdogfkjdoldpiaa
