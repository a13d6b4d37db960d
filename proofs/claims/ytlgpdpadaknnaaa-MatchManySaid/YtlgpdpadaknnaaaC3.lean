/- Patterns of variables, lists of ints: plain facts; the range over what is known. -/
import Derived.Test.YtlgpdpadaknnaaaC1
import Derived.Maps.RangeWalk
namespace Go.Proofs.Ytlgpdpadaknnaaa
open Go.RowKit Go.Maps
set_option maxRecDepth 100000

abbrev varL (qs : List (ByteArray × Int)) : List Lv := qs.map fun q => ⟨9, 0, q.1⟩
abbrev intL (qs : List (ByteArray × Int)) : List Lv := qs.map fun q => ⟨1, q.2, ⟨#[]⟩⟩
abbrev bdI (q : ByteArray × Int) : Bd := ⟨q.1, 1, q.2, ⟨#[]⟩⟩
theorem stepN_var (l : List ByteArray) (s : ByteArray) : stepN l (leafT 9 0 s) = addN l s := by
  show (if (9 : Int) = 9 then addN l s else l) = addN l s
  rw [if_pos rfl]
theorem names_fit : ∀ (qs B B2 : List (ByteArray × Int)), fitM qs B = some B2 → ((varL qs).map lvT).foldl stepN (B.map (·.1)) = B2.map (·.1)
  | [], B, B2, h => by
    rw [fitM] at h
    cases h
    rfl
  | q :: r, B, B2, h => by
    have e : (varL (q :: r)).map lvT = leafT 9 0 q.1 :: (varL r).map lvT := rfl
    rw [e, List.foldl_cons, stepN_var]
    unfold addN
    by_cases hm : q.1 ∈ B.map (·.1)
    · rw [if_pos hm]
      by_cases hq : q ∈ B
      · rw [fitM_old hq] at h
        exact names_fit r B B2 h
      · rw [fitM_bad hm hq] at h
        cases h
    · rw [if_neg hm]
      rw [fitM_new hm] at h
      have := names_fit r (B ++ [q]) B2 h
      rw [List.map_append, List.map_singleton] at this
      exact this
theorem fitM_inv : ∀ (qs B B2 : List (ByteArray × Int)), fitM qs B = some B2 → (B.map (·.1)).Nodup → (B2.map (·.1)).Nodup ∧ (∀ q ∈ B2, q ∈ B ∨ q ∈ qs) ∧ B2.length ≤ B.length + qs.length
  | [], B, B2, h, hn => by
    rw [fitM] at h
    cases h
    exact ⟨hn, fun q h => .inl h, by omega⟩
  | q :: r, B, B2, h, hn => by
    by_cases hm : q.1 ∈ B.map (·.1)
    · by_cases hq : q ∈ B
      · rw [fitM_old hq] at h
        obtain ⟨h1, h2, h3⟩ := fitM_inv r B B2 h hn
        exact ⟨h1, fun x hx => (h2 x hx).imp id (fun e => by simp [e]), by simp; omega⟩
      · rw [fitM_bad hm hq] at h
        cases h
    · rw [fitM_new hm] at h
      obtain ⟨h1, h2, h3⟩ := fitM_inv r (B ++ [q]) B2 h (by rw [List.map_append, List.map_singleton]; exact nodup_snoc hn hm)
      refine ⟨h1, fun x hx => ?_, by simp at h3; simp; omega⟩
      rcases h2 x hx with e | e
      · rcases List.mem_append.1 e with e | e
        · exact .inl e
        · rw [List.mem_singleton] at e
          exact .inr (by simp [e])
      · exact .inr (by simp [e])
theorem bcat_app (a b : List Bd) : bcat (a ++ b) = bcat a ++ bcat b := by simp [bcat]
theorem infoBind : (Try.prog.info? 36).map (fun i => (i.zero, i.size, i.bytes)) = some (some (.agg #[.string ⟨#[]⟩, .int .i64 0, .int .i64 0, .complex .f64 0 0, .string ⟨#[]⟩, .int .i64 0, .int .u32 0, .int .u64 0, nilV, nilV]), 10, 136) := by kernel_rfl
abbrev zB : Array Value := #[.string ⟨#[]⟩, .int .i64 0, .int .i64 0, .complex .f64 0 0, .string ⟨#[]⟩, .int .i64 0, .int .u32 0, .int .u64 0, nilV, nilV]
theorem bd_one (b : Bd) : ∀ u ∈ (bdC b).toList, u.oneCell' = true := by simp [Value.oneCell']
theorem row_below {w w' : World} {base e size n : Nat} {v : Value} {xs : List Value} (h : w.ownsRow base e size v n xs) (hb : Below w.heap.size w w') : w'.ownsRow base e size v n xs := row_same h (fun b _ hl => hb.block b hl)
theorem grown_below {B : Nat} {w w1 w2 : World} {e size n : Nat} {v : Value} {xs : List Value} {o : Obj} (hb : Below B w w1) (hB : B ≤ w1.heap.size) (ho : w1.ownsRow B e size v n xs) (hg : (w1.alloc o).grownBy w2 v.ownBlock) : Below B w w2 :=
  (hb.alloc hB o).trans ⟨hg.os, hg.tape, hg.output, hg.size, fun i hi => hg.block i (by simp; omega) (fun e => by have := (ho.lt i e.symm).1; omega)⟩
theorem pat_var {k : Nat} (hk : k = 6 ∨ k = 7) {qs : List (ByteArray × Int)} (hlen : qs.length ≤ 256) (hv : ∀ q ∈ qs, VarName q.1) : Pat k ((varL qs).map lvT) :=
  ⟨hk, fun t ht => by
    rw [List.map_map] at ht
    obtain ⟨q, hq, rfl⟩ := List.mem_map.1 ht
    exact LeafP.var q.1 (hv q hq), by simpa using hlen⟩
theorem size_ints : ∀ qs : List (ByteArray × Int), sizeTs ((intL qs).map lvT) = qs.length
  | [] => rfl
  | q :: r => by
    have e : (intL (q :: r)).map lvT = leafT 1 q.2 ⟨#[]⟩ :: (intL r).map lvT := rfl
    rw [e]
    simp only [sizeTs, leafT, sizeT, size_ints r, List.length_cons]
    simp
    omega
theorem check_ints {k : Nat} (hk : k = 6 ∨ k = 7) {qs : List (ByteArray × Int)} (hlen : qs.length ≤ 256) (hv : ∀ q ∈ qs, inR q.2 = true) (F : Nat → Prop) (tv : Value) (w : World) (h : LRow w F tv (intL qs)) (hF : ∀ b, F b → b < w.heap.size) :
    Calls Try.prog 15 #[.agg (hdC { kind := (k : Int) } nilV tv)] w (RB w (.int .i64 0)) := by
  refine check_good (.mk { kind := (k : Int) } ((intL qs).map lvT)) ⟨HdOk.list k _ hk (by simpa using hlen), fun t ht => ?_⟩ ?_ F _ w (h.rep k) hF
  · rw [List.map_map] at ht
    obtain ⟨q, hq, rfl⟩ := List.mem_map.1 ht
    exact ⟨HdOk.int q.2 (hv q hq), by simp⟩
  · simp only [sizeT, size_ints]
    simp
    omega
/-- keys of strings -/
theorem key_inv {v : Value} {kl : Lit} (h : keyOf Try.prog 9 v = some kl) : ∃ s : ByteArray, v = .string s ∧ kl = key s ∧ s.size ≤ maxLen := by
  have hu := Try.underlying9
  cases v <;> simp [keyOf, hu, mapKey] at h
  rename_i s
  exact ⟨s, rfl, h.2.symm, h.1⟩
theorem same_key (a b : ByteArray) : (key a).sameKey (key b) = true ↔ a = b := by
  constructor
  · intro h
    exact key_inj (WideAt.sameKey_eq h)
  · rintro rfl
    exact WideAt.sameKey_self (isKey a)
end Go.Proofs.Ytlgpdpadaknnaaa
