/- The names of a pattern, and what stands for them: plain facts. -/
import Derived.Test.YtlgpdpadaknnaaaA1
import Derived.Maps.OwnOps
import Derived.Maps.OwnSet
import Derived.StringKeys
namespace Go.Proofs.Ytlgpdpadaknnaaa
open Go.RowKit Go.Maps
set_option maxRecDepth 100000

noncomputable instance decMem (s : ByteArray) (l : List ByteArray) : Decidable (s ∈ l) := Classical.propDecidable _
def key (s : ByteArray) : Lit := .string s.data.toList
theorem key_inj {a b : ByteArray} (h : key a = key b) : a = b := by
  simp only [key, Lit.string.injEq] at h
  exact ByteArray.ext (Array.toList_inj.1 h)
theorem isKey (s : ByteArray) : WideAt.IsKeyLit (key s) := trivial
def num (n : Nat) : DataW Unit := .lit (.int .i64 n)
theorem lawS : Keyed Try.prog 9 := string_keyed Try.underlying9
theorem zeroI (w : World) : (zeroValue 3).run Try.prog w = .ok (.int .i64 0) w := by kernel_rfl
theorem keyS {s : ByteArray} (hs : s.size ≤ maxLen) : keyOf Try.prog 9 (.string s) = some (key s) := Go.WideMaps.keyOf_string_mk Try.underlying9 hs
/-- a set of names, as a map to 1 -/
def setFrom (D : DataW Unit) : List ByteArray → DataW Unit
  | [] => D
  | s :: l => setFrom (D.put (key s) (num 1)) l
def setM (l : List ByteArray) : DataW Unit := setFrom (.map []) l
theorem setFrom_snoc (s : ByteArray) : ∀ (l : List ByteArray) (D : DataW Unit), setFrom D (l ++ [s]) = (setFrom D l).put (key s) (num 1)
  | [], _ => rfl
  | _ :: l, _ => setFrom_snoc s l _
theorem setM_snoc (l : List ByteArray) (s : ByteArray) : setM (l ++ [s]) = (setM l).put (key s) (num 1) := setFrom_snoc s l _
theorem at_setFrom (s : ByteArray) : ∀ (l : List ByteArray) (D : DataW Unit), IsMap D → (setFrom D l).atKey (key s) (num 0) = if s ∈ l then num 1 else D.atKey (key s) (num 0)
  | [], _, _ => by simp [setFrom]
  | a :: l, D, h => by
    unfold setFrom
    rw [at_setFrom s l _ (h.put _ _)]
    by_cases hs : s ∈ l
    · simp [hs]
    · by_cases ha : s = a
      · subst ha
        simp [hs, atKey_put_same h (isKey s)]
      · rw [atKey_put_other (fun e => ha (key_inj e))]
        simp [hs, ha]
theorem at_setM (l : List ByteArray) (s : ByteArray) : (setM l).atKey (key s) (num 0) = if s ∈ l then num 1 else num 0 := at_setFrom s l _ isMap_empty
/-- what stands for which name, as a map -/
def bindFrom (D : DataW Value) : List (ByteArray × Value) → DataW Value
  | [] => D
  | x :: l => bindFrom (D.put (key x.1) (.held x.2)) l
def bindM (l : List (ByteArray × Value)) : DataW Value := bindFrom (.map []) l
theorem bindFrom_snoc (x : ByteArray × Value) : ∀ (l : List (ByteArray × Value)) (D : DataW Value), bindFrom D (l ++ [x]) = (bindFrom D l).put (key x.1) (.held x.2)
  | [], _ => rfl
  | _ :: l, _ => bindFrom_snoc x l _
theorem bindM_snoc (l : List (ByteArray × Value)) (x : ByteArray × Value) : bindM (l ++ [x]) = (bindM l).put (key x.1) (.held x.2) := bindFrom_snoc x l _
theorem has_bindFrom (s : ByteArray) : ∀ (l : List (ByteArray × Value)) (D : DataW Value), IsMap D → has (bindFrom D l) (key s) = (decide (s ∈ l.map (·.1)) || has D (key s))
  | [], _, _ => by simp [bindFrom]
  | a :: l, D, h => by
    unfold bindFrom
    rw [has_bindFrom s l _ (h.put _ _)]
    by_cases ha : s = a.1
    · rw [ha, has_put_same h (isKey _)]
      simp
    · rw [has_put_other (fun e => ha (key_inj e))]
      congr 1
      exact decide_eq_decide.2 (by simp [ha])
theorem has_bindM (l : List (ByteArray × Value)) (s : ByteArray) : has (bindM l) (key s) = decide (s ∈ l.map (·.1)) := by
  unfold bindM
  rw [has_bindFrom s l _ isMap_empty]
  simp [has]
theorem at_bindFrom {s : ByteArray} {v : Value} (z : DataW Value) : ∀ (l : List (ByteArray × Value)) (D : DataW Value), IsMap D → (s ∉ l.map (·.1) → (bindFrom D l).atKey (key s) z = D.atKey (key s) z) ∧ ((l.map (·.1)).Nodup → (s, v) ∈ l → (bindFrom D l).atKey (key s) z = .held v)
  | [], _, _ => ⟨fun _ => rfl, fun _ h => absurd h (by simp)⟩
  | a :: l, D, h => by
    have ih := at_bindFrom (s := s) (v := v) z l (D.put (key a.1) (.held a.2)) (h.put _ _)
    refine ⟨fun hn => ?_, fun hd hm => ?_⟩
    · simp only [List.map_cons, List.mem_cons, not_or] at hn
      unfold bindFrom
      rw [ih.1 hn.2, atKey_put_other (fun e => hn.1 (key_inj e))]
    · simp only [List.map_cons, List.nodup_cons] at hd
      unfold bindFrom
      rcases List.mem_cons.1 hm with e | hm
      · subst e
        rw [ih.1 hd.1, atKey_put_same h (isKey _)]
      · exact ih.2 hd.2 hm
theorem at_bindM {l : List (ByteArray × Value)} (hd : (l.map (·.1)).Nodup) {s : ByteArray} {v : Value} (hm : (s, v) ∈ l) (z : DataW Value) : (bindM l).atKey (key s) z = .held v := (at_bindFrom z l _ isMap_empty).2 hd hm
theorem tidy_bindFrom : ∀ (l : List (ByteArray × Value)) (D : DataW Value), Tidy D → Tidy (bindFrom D l)
  | [], _, h => h
  | _ :: l, _, h => tidy_bindFrom l _ (h.put (isKey _) _)
theorem size_bindFrom : ∀ (l : List (ByteArray × Value)) (D : DataW Value), Tidy D → (l.map (·.1)).Nodup → (∀ x ∈ l, has D (key x.1) = false) → Maps.size (bindFrom D l) = Maps.size D + l.length
  | [], _, _, _, _ => rfl
  | a :: l, D, h, hd, hn => by
    simp only [List.map_cons, List.nodup_cons] at hd
    unfold bindFrom
    rw [size_bindFrom l _ (h.put (isKey _) _) hd.2 (fun x hx => by
      have hne : ¬ x.1 = a.1 := fun e => hd.1 (by rw [← e]; exact List.mem_map_of_mem hx)
      rw [has_put_other (fun e => hne (key_inj e))]
      exact hn x (by simp [hx])), size_put h, hn a (by simp)]
    simp
    omega
theorem size_bindM {l : List (ByteArray × Value)} (hd : (l.map (·.1)).Nodup) : Maps.size (bindM l) = l.length := by
  unfold bindM
  rw [size_bindFrom l _ tidy_empty hd (fun x _ => rfl)]
  simp [Maps.size]
/-- how an element reads: as itself -/
def heldR (v : Value) : Option (DataW Value × List MemPlace) := some (.held v, [])
abbrev bindAt (W : World) (m n : Nat) (l : List (ByteArray × Value)) : Prop := W.ownsMap Try.prog 9 heldR m n (bindM l)
abbrev setAt (W : World) (m n : Nat) (l : List ByteArray) : Prop := W.ownsMap Try.prog 9 (plainElem (H := Unit) Try.prog 3) m n (setM l)
theorem map_same {H : Type} {w w' : World} {P : Program} {k : TypeId} {R : Value → Option (DataW H × List MemPlace)} {b n : Nat} {D : DataW H} (h : w.ownsMap P k R b n D) (hs : w'.heap[b]? = w.heap[b]?) : w'.ownsMap P k R b n D := by
  obtain ⟨es, clock, hb, F, hs', hD⟩ := h
  exact ⟨es, clock, hs.trans hb, F, hs', hD⟩

/-- a variable's first sign -/
def big (c : Nat) : Bool := decide (65 ≤ c ∧ c ≤ 90) || c == 95
/-- a variable's name -/
structure VarName (s : ByteArray) : Prop where
  pos : 0 < s.size
  le : s.size ≤ 32
  ne : ¬ s = ⟨#[95]⟩
  first : big (s.data.toList.getD 0 0).toNat = true
  all : okTo s s.size
theorem beq_bytes_false {a b : ByteArray} (h : ¬ a = b) : (a.toList == b.toList) = false := by
  rw [beq_eq_false_iff_ne]
  intro e
  rw [Lib.toList_data, Lib.toList_data] at e
  exact h (ByteArray.ext (Array.toList_inj.1 e))
end Go.Proofs.Ytlgpdpadaknnaaa
