/- Ids as keys; maps whose keys are ids: plain facts. -/
import Derived.Test.YtkpeelhanmekdaaL0
import Derived.Maps.OwnOps
import Derived.Maps.OwnSet
import Derived.DeepKeys4
namespace Go.Proofs.Ytkpeelhanmekdaa
set_option linter.unusedVariables false
set_option linter.unusedSimpArgs false
set_option linter.constructorNameAsVariable false
open Go.RowKit Go.Maps
set_option maxRecDepth 100000

/-- an id -/
structure Idd where
  node : Nat
  boot : Nat
  n : Nat
abbrev idC (x : Idd) : Array Value := #[.int .i64 x.node, .int .u32 x.boot, .int .u64 x.n]
abbrev idV (x : Idd) : Value := .agg (idC x)
/-- an id that a variable may hold -/
structure IdIn (x : Idd) : Prop where
  node : x.node ≤ 9223372036854775807
  boot : x.boot ≤ 4294967295
  n : x.n ≤ 18446744073709551615
theorem laidOut0 : laidOutB Try.prog = true := by kernel_rfl
theorem keyTyI : Try.prog.keyTypeAt 3 31 = true := by kernel_rfl
theorem lawI : Keyed Try.prog 31 := Keyed.of_law (deep_law_laid laidOut0 (m := 3) (by decide) (of_decide_eq_true (by kernel_rfl)) keyTyI (by kernel_rfl))
def keyI (x : Idd) : Lit := .string (keyBytes [.int .i64 x.node, .int .u32 x.boot, .int .u64 x.n])
theorem keyTy : Try.prog.keyType 31 = true := by kernel_rfl
theorem sizeTy : ∃ m, Try.prog.types.size = m + 1 := ⟨_, (Nat.succ_pred_eq_of_pos (of_decide_eq_true (by kernel_rfl))).symm⟩
theorem keyOfI {x : Idd} (h : IdIn x) : keyOf Try.prog 31 (idV x) = some (keyI x) := by
  have w1 : (Lit.int .i64 x.node).wf = true := WalkArith.wf_i64 (by have := h.node; omega)
  have w2 : (Lit.int .u32 x.boot).wf = true := by have := h.boot; simp [Lit.wf, IntKind.min, IntKind.max, IntKind.signed, IntKind.bits]; omega
  have w3 : (Lit.int .u64 x.n).wf = true := by have := h.n; simp [Lit.wf, IntKind.min, IntKind.max, IntKind.signed, IntKind.bits]; omega
  have hu := Try.underlying31
  have hc : Try.prog.cellsOf 31 = 3 := by kernel_rfl
  have c1 : Try.prog.cellsOf 3 = 1 := by kernel_rfl
  have c2 : Try.prog.cellsOf 28 = 1 := by kernel_rfl
  have c3 : Try.prog.cellsOf 29 = 1 := by kernel_rfl
  have u1 := Try.underlying3
  have u2 := Try.underlying28
  have u3 := Try.underlying29
  obtain ⟨m, hm⟩ := sizeTy
  unfold keyOf
  simp only [hu]
  rw [if_pos (by simp [keyTy, Value.formed, hu, hc]), hm]
  unfold Program.keyLits
  simp only [hu, Value.cells]
  rw [if_pos (by refine ⟨by rw [hc]; rfl, by simp⟩)]
  simp [Program.keyLits, c1, c2, c3, u1, u2, u3, w1, w2, w3, keyI]
theorem keyI_inj {x y : Idd} (hx : IdIn x) (hy : IdIn y) (h : keyI x = keyI y) : x = y := by
  have e := lawI.inj (keyOfI hx) (h ▸ keyOfI hy)
  have e2 : (#[Value.int .i64 x.node, .int .u32 x.boot, .int .u64 x.n] : Array Value) = #[.int .i64 y.node, .int .u32 y.boot, .int .u64 y.n] := by
    simpa [idV] using e
  simp at e2
  obtain ⟨n1, b1, m1⟩ := x
  obtain ⟨n2, b2, m2⟩ := y
  simp at e2
  obtain ⟨h1, h2, h3⟩ := e2
  obtain rfl : n1 = n2 := by omega
  obtain rfl : b1 = b2 := by omega
  obtain rfl : m1 = m2 := by omega
  rfl
theorem isKeyI (x : Idd) : WideAt.IsKeyLit (keyI x) := trivial
/-- D reads as the list l: these keys and no others, with these elements -/
structure MapIs (D : DataW Value) (l : List (Idd × Value)) : Prop where
  tidy : Tidy D
  ids : ∀ p ∈ l, IdIn p.1
  nd : (l.map (·.1)).Nodup
  has : ∀ kl, Maps.has D kl = true ↔ ∃ x ∈ l.map (·.1), kl = keyI x
  at' : ∀ p ∈ l, ∀ z, D.atKey (keyI p.1) z = .held p.2
  size : Maps.size D = l.length
theorem mapIs_nil : MapIs (.map []) [] := ⟨tidy_empty, by simp, by simp, fun kl => by simp [Maps.has], by simp, rfl⟩
theorem MapIs.hasI {D : DataW Value} {l : List (Idd × Value)} (h : MapIs D l) {x : Idd} (hx : IdIn x) : Maps.has D (keyI x) = true ↔ x ∈ l.map (·.1) := by
  rw [h.has]
  constructor
  · rintro ⟨y, hy, e⟩
    obtain ⟨p, hp, rfl⟩ := List.mem_map.1 hy
    rw [keyI_inj hx (h.ids p hp) e]
    exact hy
  · exact fun hm => ⟨x, hm, rfl⟩
theorem MapIs.put {D : DataW Value} {l : List (Idd × Value)} (h : MapIs D l) {x : Idd} (hx : IdIn x) (hn : x ∉ l.map (·.1)) (v : Value) : MapIs (D.put (keyI x) (.held v)) (l ++ [(x, v)]) := by
  have hf : Maps.has D (keyI x) = false := by
    cases hh : Maps.has D (keyI x) with
    | false => rfl
    | true => exact absurd ((h.hasI hx).1 hh) hn
  refine ⟨h.tidy.put (isKeyI x) _, fun p hp => ?_, ?_, fun kl => ?_, fun p hp z => ?_, ?_⟩
  · rcases List.mem_append.1 hp with hp | hp
    · exact h.ids p hp
    · rw [List.mem_singleton] at hp
      subst hp
      exact hx
  · rw [List.map_append, List.map_singleton, List.nodup_append]
    refine ⟨h.nd, by simp, fun a ha b hb e => ?_⟩
    rw [List.mem_singleton] at hb
    subst hb
    exact hn (e ▸ ha)
  · by_cases e : kl = keyI x
    · subst e
      rw [has_put_same h.tidy.isMap (isKeyI x)]
      exact ⟨fun _ => ⟨x, by simp, rfl⟩, fun _ => rfl⟩
    · rw [has_put_other e, h.has]
      constructor
      · rintro ⟨y, hy, e2⟩
        exact ⟨y, by rw [List.map_append]; exact List.mem_append_left _ hy, e2⟩
      · rintro ⟨y, hy, e2⟩
        rw [List.map_append] at hy
        rcases List.mem_append.1 hy with hy | hy
        · exact ⟨y, hy, e2⟩
        · simp at hy
          exact absurd (hy ▸ e2) e
  · rcases List.mem_append.1 hp with hp | hp
    · have hne : keyI p.1 ≠ keyI x := fun e => hn (keyI_inj (h.ids p hp) hx e ▸ List.mem_map_of_mem (f := (·.1)) hp)
      rw [atKey_put_other hne]
      exact h.at' p hp z
    · rw [List.mem_singleton] at hp
      subst hp
      exact atKey_put_same h.tidy.isMap (isKeyI x) _ _
  · rw [size_put h.tidy, hf, h.size]
    simp
/-- the list without a key -/
noncomputable def without (l : List (Idd × Value)) (x : Idd) : List (Idd × Value) := by
  classical exact l.filter (fun p => decide (p.1 ≠ x))
theorem mem_without {l : List (Idd × Value)} {x : Idd} {p : Idd × Value} : p ∈ without l x ↔ p ∈ l ∧ p.1 ≠ x := by
  classical
  unfold without
  simp
open Classical in
theorem without_len {x : Idd} : ∀ {l : List (Idd × Value)}, (l.map (·.1)).Nodup → (without l x).length + (if x ∈ l.map (·.1) then 1 else 0) = l.length
  | [], _ => by simp [without]
  | p :: l, h => by
    simp only [List.map_cons, List.nodup_cons] at h
    have ih := without_len (x := x) h.2
    by_cases e : p.1 = x
    · have hn : x ∉ l.map (·.1) := e ▸ h.1
      rw [if_neg hn] at ih
      have e2 : without (p :: l) x = without l x := by
        unfold without
        rw [List.filter_cons_of_neg (by simp [e])]
      rw [e2, if_pos (by simp [e])]
      simp
      omega
    · have e2 : without (p :: l) x = p :: without l x := by
        unfold without
        rw [List.filter_cons_of_pos (by simp [e])]
      rw [e2]
      by_cases hm : x ∈ l.map (·.1)
      · rw [if_pos hm] at ih
        rw [if_pos (by rw [List.map_cons]; exact List.mem_cons_of_mem _ hm)]
        simp
        omega
      · rw [if_neg hm] at ih
        rw [if_neg (by rw [List.map_cons, List.mem_cons]; exact fun h => h.elim (fun h => e h.symm) hm)]
        simp
        omega
theorem MapIs.del {D : DataW Value} {l : List (Idd × Value)} (h : MapIs D l) {x : Idd} (hx : IdIn x) : MapIs (D.del (keyI x)) (without l x) := by
  classical
  have hsub : (without l x).Sublist l := List.filter_sublist
  refine ⟨h.tidy.del _, fun p hp => h.ids p (mem_without.1 hp).1, h.nd.sublist (hsub.map _), fun kl => ?_, fun p hp z => ?_, ?_⟩
  · by_cases e : kl = keyI x
    · subst e
      rw [has_del_same]
      constructor
      · intro hf
        cases hf
      · rintro ⟨y, hy, e2⟩
        obtain ⟨p, hp, rfl⟩ := List.mem_map.1 hy
        obtain ⟨hp1, hp2⟩ := mem_without.1 hp
        exact absurd (keyI_inj (h.ids p hp1) hx e2.symm) hp2
    · rw [has_del_other e, h.has]
      constructor
      · rintro ⟨y, hy, e2⟩
        obtain ⟨p, hp, rfl⟩ := List.mem_map.1 hy
        refine ⟨p.1, List.mem_map_of_mem (f := (·.1)) (mem_without.2 ⟨hp, fun e3 => e (by rw [e2, e3])⟩), e2⟩
      · rintro ⟨y, hy, e2⟩
        obtain ⟨p, hp, rfl⟩ := List.mem_map.1 hy
        exact ⟨p.1, List.mem_map_of_mem (f := (·.1)) (mem_without.1 hp).1, e2⟩
  · obtain ⟨hp1, hp2⟩ := mem_without.1 hp
    rw [atKey_del_other (fun e => hp2 (keyI_inj (h.ids p hp1) hx e))]
    exact h.at' p hp1 z
  · have hs := size_del (k := keyI x) h.tidy
    have hl : (without l x).length + (if x ∈ l.map (·.1) then 1 else 0) = l.length := without_len h.nd
    by_cases hm : x ∈ l.map (·.1)
    · rw [if_pos ((h.hasI hx).2 hm), h.size] at hs
      rw [if_pos hm] at hl
      omega
    · have hf : Maps.has D (keyI x) = false := by
        cases hh : Maps.has D (keyI x) with
        | false => rfl
        | true => exact absurd ((h.hasI hx).1 hh) hm
      rw [hf, h.size] at hs
      rw [if_neg hm] at hl
      simp at hs
      omega
end Go.Proofs.Ytkpeelhanmekdaa
