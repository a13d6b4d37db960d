/- For any bytes the law CtlReads of layer 23 returns true, and its argument reads behind the call as before: which signal any bytes are, or what is wrong with them, and what is handed in is not kept. No condition on the input. -/
import Derived.Test.YtgadkiljnebicaaD53
import Derived.Test.YtgadkiljnebicaaD02
import Derived.SizedLaws
namespace Go.Proofs.Ytgadkiljnebicaa.ctlReads
open Go.ChangeShapes Go.WideShapes Go.ChangeAt Go.RowKit Go.Proofs.Ytgadkiljnebicaa
open Go.ChangeMaps (open_string shut_string)

theorem own : ownKnob Try.prog.godebug = none := by kernel_rfl
theorem laidOut : laidOutB Try.prog = true := by kernel_rfl
/-- bytes that came in, and how many there may be -/
theorem bytes_room {H : Type} {enc : TypeId × Value → H} {w : World} {x : Option Addr} {len cap : Nat} {d : DataW H} {ps : List MemPlace} (h : DataW.Trod enc Try.prog w 0 (fun _ => true) true 22 (.slice x len cap) d ps) : len = 0 ∨ ∃ a b, d = .slice a b ∧ a.length = len := by
  obtain ⟨_, _, _, _, _, hd⟩ := sl_open Try.underlying22 Try.underlying5 (by kernel_rfl) h
  exact hd
theorem reachB {H : Type} {P : Program} {ts : List TypeId} {ds : List (DataW H)} {j len : Nat} {T e : TypeId} {d : DataW H} (hsz : (DataW.weightsEach P ts ds).all (· ≤ reachBytes) = true) (ht : ts[j]? = some T) (hd : ds[j]? = some d) (hu : P.underlying T = some (.slice e)) (hb : P.bytesOf e = 1)
    (h : len = 0 ∨ ∃ a b, d = .slice a b ∧ a.length = len) : len ≤ 140737488355328 := by
  rcases h with rfl | ⟨a, b, rfl, rfl⟩
  · simp
  · have := sized_slice hsz ht hd hu
    rw [hb] at this
    have hr : reachBytes ≤ 140737488355328 := by decide
    omega
set_option maxRecDepth 100000 in
theorem lifted (os : Os) (started : os.Started) (H : Type) (enc : TypeId × Value → H) :
    ReturnsInHanded {} Try.checked os 3 .any (Rows.ctlReadsSpec.pre6 enc Try.prog Try.f3 Rows.ctlReadsRow.domain false) (Rows.ctlReadsSpec.post enc Try.prog Try.f3 false true false false) := by
  refine returnsInHanded_of_change_sized (C := Try.checked) own started (by kernel_rfl) Try.func3
    (ChangeSpec.witness6 (enc := enc) (C := Try.checked) false ⟨#[], #[.slice none 0 0], []⟩ 8 (by kernel_rfl) (by kernel_rfl) (by kernel_rfl) (by kernel_rfl)) ?_
  intro W base args ds gs before hval0 hW _ hsz0 _
  have hsz : (DataW.weightsEach Try.prog (Try.f3.params.toList ++ Rows.ctlReadsSpec.plain.varTypes Try.prog) (ds ++ gs)).all (· ≤ reachBytes) = true := hsz0
  clear hsz0
  have hval : ∀ (j : Nat) t v, Try.f3.params[j]? = some t → args[j]? = some v → Value.okWide Try.prog W .any base t v := hval0
  have hW' := hW
  obtain ⟨p, q, hA0, hV, hpq, hfz, hnd⟩ := hW
  have hA : DataW.TrodAll enc Try.prog W 0 (fun _ => true) true Try.f3.params.toList args.toList ds p := hA0
  rw [Try.params3] at hA hval hsz
  obtain ⟨v0, vs0, d0, ds0, p0, q0, hargs, rfl, rfl, h0, r0⟩ := trodAll_cons hA
  obtain ⟨rfl, rfl, rfl⟩ := trodAll_nil r0
  obtain rfl : args = #[v0] := by cases args; simp_all
  obtain ⟨rfl, rfl⟩ := trodVars_none hV
  obtain ⟨x0, len0, cap0, rfl⟩ := okWide_slice Try.underlying22 (hval 0 22 v0 rfl rfl)
  have hr0 := reachB (j := 0) hsz rfl rfl Try.underlying22 (by kernel_rfl) (bytes_room h0)
  obtain ⟨a0, w0⟩ := bytes_open h0
  have hl0 : a0.length ≤ 140737488355328 := by
    obtain ⟨a2, c2, e, _⟩ := w0
    rw [List.length_map] at e
    cases e
    exact hr0
  clear hA0 hval0
  refine (reads_go _ a0 W w0 hl0).mono fun e W' ⟨he, hb⟩ => ?_
  exact ⟨_, he, post_law 4 laidOut (by rw [Try.params3]; intro t ht; simp at ht; first | (subst ht; exact ⟨by kernel_rfl, of_decide_eq_true (by kernel_rfl)⟩) | (rcases ht with rfl | rfl <;> exact ⟨by kernel_rfl, of_decide_eq_true (by kernel_rfl)⟩)) rfl hW' rfl rfl Try.underlying4 rfl hb⟩

theorem holds : Rows.CtlReadsSaid :=
  OpenClaim.holds_of_wide 3 Try.f3 rfl rfl rfl rfl rfl rfl rfl ⟨rfl, rfl, rfl, rfl, rfl⟩ rfl rfl rfl rfl rfl (by kernel_rfl) Try.func3 (by kernel_rfl)
    (of_decide_eq_true (by kernel_rfl)) (by unfold Func.isWrapper; first | (rw [if_pos (by decide +kernel)]; kernel_rfl) | (rw [if_neg (by decide +kernel)]; exact ⟨rfl, rfl⟩))
    (fun os started H enc _ => lifted os started H enc)
end Go.Proofs.Ytgadkiljnebicaa.ctlReads
