/- Several texts in one. -/
import Derived.Test.YtkfblapfphnggaaRows
import Derived.Maps.Views
import Derived.Maps.Own
import Derived.Maps.OwnSet
import Derived.Laws.FloatArith
import Derived.WalkKit
import Derived.WalkSpells
import Derived.WalkLawsBesides
import Derived.Lib.Hide
import Derived.Lib.Strings
import Derived.Lib.ConvBytes
import Derived.Deep.AppendSrc
import Derived.Maps.AppendAt
/- Plain facts on names, their numbers and the map of them; no program here. -/
namespace Go.Proofs.Ytkfblapfphnggaa
open Go.RowKit

/-- May the byte stand in a name? -/
def okb (c : Nat) : Bool := decide (97 ≤ c ∧ c ≤ 122) || decide (65 ≤ c ∧ c ≤ 90) || decide (48 ≤ c ∧ c ≤ 57) || c == 95
def small (c : Nat) : Bool := decide (97 ≤ c ∧ c ≤ 122)
/-- Is it a name? -/
def nameB (s : ByteArray) : Bool :=
  decide (0 < s.size) && decide (s.size ≤ 32) && small (s.data.toList.getD 0 0).toNat && s.data.toList.all (fun c => okb c.toNat)
/-- the first k bytes may stand in a name -/
def okTo (s : ByteArray) (k : Nat) : Prop := ∀ j, j < k → okb (s.data.toList.getD j 0).toNat = true
theorem okTo_zero (s : ByteArray) : okTo s 0 := fun j h => by omega
theorem okTo_succ {s : ByteArray} {k : Nat} (h : okTo s k) (hk : okb (s.data.toList.getD k 0).toNat = true) : okTo s (k + 1) := fun j hj => by
  by_cases e : j = k
  · subst e; exact hk
  · exact h j (by omega)
theorem all_iff (s : ByteArray) : s.data.toList.all (fun c => okb c.toNat) = true ↔ okTo s s.size := by
  rw [List.all_eq_true]
  constructor
  · intro h j hj
    have hj' : j < s.data.toList.length := by simpa using hj
    rw [List.getD_eq_getElem?_getD, List.getElem?_eq_getElem hj', Option.getD_some]
    exact h _ (List.getElem_mem hj')
  · intro h x hx
    obtain ⟨j, hj, rfl⟩ := List.getElem_of_mem hx
    have := h j (by simpa using hj)
    rw [List.getD_eq_getElem?_getD, List.getElem?_eq_getElem hj, Option.getD_some] at this
    exact this
theorem nameB_true {s : ByteArray} (h0 : 0 < s.size) (h1 : s.size ≤ 32) (h2 : small (s.data.toList.getD 0 0).toNat = true) (h3 : okTo s s.size) : nameB s = true := by
  unfold nameB; rw [(all_iff s).2 h3, h2]; simp [h0, h1]
theorem nameB_bad {s : ByteArray} {k : Nat} (hk : k < s.size) (h : okb (s.data.toList.getD k 0).toNat = false) : nameB s = false := by
  have : s.data.toList.all (fun c => okb c.toNat) = false := by
    cases e : s.data.toList.all (fun c => okb c.toNat) with
    | false => rfl
    | true => have := (all_iff s).1 e k hk; rw [h] at this; cases this
  unfold nameB; rw [this]; simp
theorem nameB_first {s : ByteArray} (h : small (s.data.toList.getD 0 0).toNat = false) : nameB s = false := by unfold nameB; rw [h]; simp
theorem nameB_long {s : ByteArray} (h : 32 < s.size) : nameB s = false := by unfold nameB; simp [show ¬ s.size ≤ 32 by omega]
theorem nameB_empty {s : ByteArray} (h : s.size = 0) : nameB s = false := by unfold nameB; simp [h]
theorem nameB_size {s : ByteArray} (h : nameB s = true) : 0 < s.size ∧ s.size ≤ 32 := by
  unfold nameB at h; simp at h; exact ⟨h.1.1.1, h.1.1.2⟩
/-- what one byte's tests say -/
theorem okb_of {c : Nat} (h : (97 ≤ (c : Int) ∧ (c : Int) ≤ 122) ∨ (65 ≤ (c : Int) ∧ (c : Int) ≤ 90) ∨ (48 ≤ (c : Int) ∧ (c : Int) ≤ 57) ∨ (c : Int) = 95) : okb c = true := by
  unfold okb; simp; omega
theorem okb_not {c : Nat} (h1 : (c : Int) < 97 ∨ 122 < (c : Int)) (h2 : (c : Int) < 65 ∨ 90 < (c : Int)) (h3 : (c : Int) < 48 ∨ 57 < (c : Int)) (h4 : ¬ (c : Int) = 95) : okb c = false := by
  unfold okb; simp; omega

/-! ### numbers of names -/
def key (s : ByteArray) : Lit := .string s.data.toList
theorem key_inj {a b : ByteArray} (h : key a = key b) : a = b := by
  cases a with | mk x => cases b with | mk y =>
  simp [key] at h
  congr 1
def num (n : Nat) : DataW Unit := .lit (.int .i64 n)
def mapFrom (D : DataW Unit) (k : Nat) : List ByteArray → DataW Unit
  | [] => D
  | s :: l => mapFrom (D.put (key s) (num k)) (k + 1) l
def mapOf (l : List ByteArray) : DataW Unit := mapFrom (.map []) 0 l
theorem mapFrom_snoc (s : ByteArray) : ∀ (l : List ByteArray) (D : DataW Unit) (k : Nat), mapFrom D k (l ++ [s]) = (mapFrom D k l).put (key s) (num (k + l.length))
  | [], _, _ => by simp [mapFrom]
  | x :: l, D, k => by
    simp only [List.cons_append, mapFrom]
    rw [mapFrom_snoc s l]
    congr 2
    simp; omega
theorem mapOf_snoc (l : List ByteArray) (s : ByteArray) : mapOf (l ++ [s]) = (mapOf l).put (key s) (num l.length) := by
  unfold mapOf; rw [mapFrom_snoc]; simp
theorem isKey (s : ByteArray) : WideAt.IsKeyLit (key s) := trivial
theorem isMap_from : ∀ (l : List ByteArray) (D : DataW Unit) (k : Nat), Maps.IsMap D → Maps.IsMap (mapFrom D k l)
  | [], _, _, h => h
  | _ :: l, _, _, h => isMap_from l _ _ (h.put _ _)
theorem isMap_mapOf (l : List ByteArray) : Maps.IsMap (mapOf l) := isMap_from l _ _ Maps.isMap_empty

/-- where a name stands first -/
def pos : List ByteArray → ByteArray → Option Nat
  | [], _ => none
  | x :: l, s => if x = s then some 0 else (pos l s).map (· + 1)
theorem pos_none_iff : ∀ {l : List ByteArray} {s : ByteArray}, pos l s = none ↔ s ∉ l
  | [], s => by simp [pos]
  | x :: l, s => by
    unfold pos
    by_cases h : x = s
    · simp [h]
    · simp only [if_neg h, Option.map_eq_none_iff, pos_none_iff (l := l), List.mem_cons, not_or]
      exact ⟨fun k => ⟨fun e => h e.symm, k⟩, fun k => k.2⟩
theorem pos_lt : ∀ {l : List ByteArray} {s : ByteArray} {i : Nat}, pos l s = some i → i < l.length ∧ l[i]? = some s
  | [], s, i, h => by simp [pos] at h
  | x :: l, s, i, h => by
    unfold pos at h
    by_cases e : x = s
    · rw [if_pos e] at h; cases h; simp [e]
    · rw [if_neg e] at h
      cases hp : pos l s with
      | none => rw [hp] at h; cases h
      | some j =>
        rw [hp] at h
        simp at h
        subst h
        have := pos_lt hp
        simp; exact this
theorem pos_snoc (l : List ByteArray) (x s : ByteArray) : pos (l ++ [x]) s = (pos l s).or (if x = s then some l.length else none) := by
  induction l with
  | nil => simp [pos]
  | cons y l ih =>
    simp only [List.cons_append, pos]
    by_cases h : y = s
    · simp [h]
    · simp only [if_neg h, ih]
      cases pos l s <;> simp
theorem pos_of_mem {l : List ByteArray} {s : ByteArray} (h : s ∈ l) : ∃ i, pos l s = some i := by
  cases e : pos l s with
  | none => exact absurd h (pos_none_iff.1 e)
  | some i => exact ⟨i, rfl⟩
/-- of a list without repeats, the element at i stands at i -/
theorem pos_at : ∀ {l : List ByteArray}, l.Nodup → ∀ {i : Nat} (h : i < l.length), pos l l[i] = some i
  | [], _, i, h => by simp at h
  | x :: l, hn, 0, _ => by simp [pos]
  | x :: l, hn, i + 1, h => by
    have hn' := List.nodup_cons.1 hn
    have hi : i < l.length := by simpa using h
    have hne : ¬ x = l[i] := fun e => hn'.1 (e ▸ List.getElem_mem hi)
    simp only [List.getElem_cons_succ]
    unfold pos
    rw [if_neg hne, pos_at hn'.2 hi]
    rfl
theorem mapOf_has : ∀ (l : List ByteArray) (s : ByteArray), Maps.has (mapOf l) (key s) = (pos l s).isSome ∧ ((l.Nodup) → (mapOf l).atKey (key s) (num 0) = num ((pos l s).getD 0)) := by
  intro l s
  generalize hn : l.length = n
  induction n generalizing l with
  | zero =>
    have : l = [] := List.eq_nil_of_length_eq_zero hn
    subst this
    exact ⟨rfl, fun _ => rfl⟩
  | succ n ih =>
    obtain ⟨l', x, rfl⟩ : ∃ l' x, l = l' ++ [x] := ⟨l.dropLast, l.getLast (by intro e; simp [e] at hn), (List.dropLast_concat_getLast _).symm⟩
    have hl' : l'.length = n := by simpa using hn
    obtain ⟨h1, h2⟩ := ih l' hl'
    rw [mapOf_snoc, pos_snoc]
    by_cases e : x = s
    · subst e
      constructor
      · rw [Maps.has_put_same (isMap_mapOf l') (isKey x)]; cases pos l' x <;> simp
      · intro hnd
        rw [Maps.atKey_put_same (isMap_mapOf l') (isKey x)]
        have hx : x ∉ l' := by
          rw [List.nodup_append] at hnd
          intro hx
          exact hnd.2.2 x hx x (by simp) rfl
        rw [pos_none_iff.2 hx]
        simp
    · have hne : key s ≠ key x := fun h => e (key_inj h).symm
      constructor
      · rw [Maps.has_put_other hne, h1]; simp [e]
      · intro hnd
        rw [Maps.atKey_put_other hne, h2 (List.nodup_append.1 hnd).1]
        simp [e]
theorem has_mapOf (l : List ByteArray) (s : ByteArray) : Maps.has (mapOf l) (key s) = (pos l s).isSome := (mapOf_has l s).1
theorem at_mapOf {l : List ByteArray} (h : l.Nodup) (s : ByteArray) : (mapOf l).atKey (key s) (num 0) = num ((pos l s).getD 0) := (mapOf_has l s).2 h
end Go.Proofs.Ytkfblapfphnggaa
/- Terms, and how they are read of bytes: plain Lean, no program here. -/
namespace Go.Proofs.Ytkfblapfphnggaa
open Go.RowKit

/-- a part's own fields -/
structure Hd where
  kind : Int := 0
  n : Int := 0
  re : Nat := 0
  im : Nat := 0
  s : ByteArray := ⟨#[]⟩
  node : Int := 0
  boot : Int := 0
  idn : Int := 0
  b : List UInt8 := []
/-- a term: its own fields and its parts -/
inductive Tm where
  | mk (h : Hd) (l : List Tm)
/-- where it is read, what was counted, the names so far -/
structure St where
  i : Nat
  n : Nat
  names : List ByteArray
abbrev Rd (α : Type) := St → Except Int (α × St)

def oneP (bs : List UInt8) : Rd Nat := fun s => match bs[s.i]? with | some c => .ok (c.toNat, { s with i := s.i + 1 }) | none => .error 72
/-- 'rest': so many bytes may still come -/
def wideP (bs : List UInt8) : (rest k acc : Nat) → Rd Nat
  | 0, _, _ => fun _ => .error 73
  | rest + 1, k, acc => fun s =>
    match oneP bs s with
    | .error e => .error e
    | .ok (c, s') =>
      if k = 9 ∧ 1 < c then .error 73
      else if 128 ≤ c then wideP bs rest (k + 1) (acc + c % 128 * 2 ^ (7 * k)) s'
      else if c = 0 ∧ 0 < k then .error 73
      else .ok (acc + c % 128 * 2 ^ (7 * k), s')
def wideN (bs : List UInt8) : Rd Nat := wideP bs 10 0 0
def someP (bs : List UInt8) (n : Nat) : Rd (List UInt8) := fun s => if s.i + n ≤ bs.length then .ok ((bs.drop s.i).take n, { s with i := s.i + n }) else .error 72
/-- a float's word, of its bytes -/
def wordOf (l : List UInt8) : Nat := l.foldl (fun u c => u * 256 + c.toNat) 0
def nameP (bs : List UInt8) : Rd ByteArray := fun s =>
  match wideN bs s with
  | .error e => .error e
  | .ok (k, s) =>
    if s.names.length < k then .error 73
    else if k < s.names.length then .ok (s.names.getD k ⟨#[]⟩, s)
    else match oneP bs s with
      | .error e => .error e
      | .ok (size, s) =>
        if size < 1 ∨ 32 < size then .error 73
        else match someP bs size s with
          | .error e => .error e
          | .ok (l, s) =>
            if nameB ⟨l.toArray⟩ = true ∧ pos s.names ⟨l.toArray⟩ = none then .ok (⟨l.toArray⟩, { s with names := s.names ++ [⟨l.toArray⟩] })
            else .error 73
def zig (u : Nat) : Int := if u % 2 = 1 then -(u / 2 : Nat) - 1 else (u / 2 : Nat)
def inR (n : Int) : Bool := decide (-4611686018427387904 ≤ n ∧ n ≤ 4611686018427387903)
/-- a finite float that is not -0 -/
def okF (p : Nat) : Bool := decide (p % 9223372036854775808 < 9218868437227405312 ∧ p ≠ 9223372036854775808)
def idOk (node boot idn : Int) : Bool := decide (1 ≤ node ∧ node ≤ 64 ∧ 1 ≤ boot ∧ 1 ≤ idn)
def manyP (p : Rd Tm) : Nat → Rd (List Tm)
  | 0 => fun s => .ok ([], s)
  | k + 1 => fun s =>
    match p s with
    | .error e => .error e
    | .ok (t, s) =>
      match manyP p k s with
      | .error e => .error e
      | .ok (l, s) => .ok (t :: l, s)
def kindP (bs : List UInt8) (sub : Rd Tm) (c : Nat) : Rd Tm := fun s =>
  if c = 1 then
    match wideN bs s with
    | .error e => .error e
    | .ok (u, s) => if inR (zig u) = true then .ok (.mk { kind := 1, n := zig u } [], s) else .error 73
  else if c = 2 then
    match someP bs 16 s with
    | .error e => .error e
    | .ok (l, s) => if okF (wordOf (l.take 8)) = true ∧ okF (wordOf (l.drop 8)) = true then .ok (.mk { kind := 2, re := wordOf (l.take 8), im := wordOf (l.drop 8) } [], s) else .error 73
  else if c = 3 then
    match nameP bs s with
    | .error e => .error e
    | .ok (x, s) => .ok (.mk { kind := 3, s := x } [], s)
  else if c = 4 ∨ c = 5 then
    match oneP bs s with
    | .error e => .error e
    | .ok (node, s) =>
      match wideN bs s with
      | .error e => .error e
      | .ok (boot, s) =>
        if 4294967295 < boot then .error 73
        else match wideN bs s with
          | .error e => .error e
          | .ok (idn, s) => if idOk node boot idn = true then .ok (.mk { kind := c, node := node, boot := boot, idn := idn } [], s) else .error 73
  else if c = 6 ∨ c = 7 then
    match wideN bs s with
    | .error e => .error e
    | .ok (k, s) =>
      if 256 < k then .error 73
      else match manyP sub k s with
        | .error e => .error e
        | .ok (l, s) => .ok (.mk { kind := c } l, s)
  else if c = 8 then
    match wideN bs s with
    | .error e => .error e
    | .ok (k, s) =>
      if 4096 < s.n + k then .error 21
      else match someP bs k { s with n := s.n + k } with
        | .error e => .error e
        | .ok (l, s) => .ok (.mk { kind := 8, b := l } [], s)
  else .error 73
/-- 'rest': so deep it may still go -/
def partP (bs : List UInt8) : (rest : Nat) → Rd Tm
  | 0 => fun _ => .error 20
  | rest + 1 => fun s =>
    if 4096 < s.n + 1 then .error 21
    else match oneP bs { s with n := s.n + 1 } with
      | .error e => .error e
      | .ok (c, s) => kindP bs (partP bs rest) c s
def decodeP (bs : List UInt8) : Except Int Tm :=
  if 131072 < bs.length then .error 70
  else match oneP bs ⟨0, 0, []⟩ with
    | .error e => .error e
    | .ok (c, s) =>
      if c ≠ 69 then .error 71
      else match partP bs 24 s with
        | .error e => .error e
        | .ok (t, s) => if s.i < bs.length then .error 74 else .ok t

example : decodeP [69, 1, 128, 0] = .error 73 := by rfl
example : decodeP [69, 7, 1] = .error 72 := by rfl
example : (match decodeP [69, 1, 1] with | .ok (.mk h []) => h.n | _ => 0) = -1 := by rfl
end Go.Proofs.Ytkfblapfphnggaa
/- Which floats are finite: plain facts on words, no program here. -/
namespace Go.Proofs.Ytkfblapfphnggaa
open Go.RowKit Ieee
set_option maxRecDepth 100000

theorem sw : double.signWeight = 9223372036854775808 := by decide
theorem ir : double.infRung = 9218868437227405312 := by decide
theorem bi : double.binade = 4503599627370496 := by decide
/-- below infinity a word is a number -/
theorem read_fin {p : Nat} (h : p % 9223372036854775808 < 9218868437227405312) : ∃ s m e, double.read p = .number s m e := by
  unfold Format.read
  simp only [sw, ir, bi]
  split
  · exact ⟨_, _, _, rfl⟩
  · exact ⟨_, _, _, rfl⟩
theorem read_not {p : Nat} (h : ¬ p % 9223372036854775808 < 9218868437227405312) : (∃ s, double.read p = .infinity s) ∨ ∃ s t, double.read p = .nan s t := by
  unfold Format.read
  simp only [sw, ir, bi]
  rw [if_neg (by omega), if_neg h]
  split
  · exact .inl ⟨_, rfl⟩
  · exact .inr ⟨_, _, rfl⟩
theorem sub_self_fin {p : Nat} (h : p % 9223372036854775808 < 9218868437227405312) : double.sub p p = some 0 := by
  obtain ⟨s, m, e, hr⟩ := read_fin h
  unfold Format.sub
  rw [hr]
  have ht : ∀ k, signed s m k + signed (!s) m k = 0 := fun k => by cases s <;> simp [signed] <;> omega
  simp only [Datum.opposite, Datum.sum, ht, if_true, Option.map_some]
  cases s <;> simp [Format.write, Format.nearest, Format.word]
theorem sub_self_not {p : Nat} (h : ¬ p % 9223372036854775808 < 9218868437227405312) : double.sub p p = none := by
  unfold Format.sub
  rcases read_not h with ⟨s, hr⟩ | ⟨s, t, hr⟩
  · rw [hr]
    cases s <;> simp [Datum.opposite, Datum.sum]
  · rw [hr]
    simp [Datum.sum]
/-- a number's digits and place: none greater than the greatest's -/
theorem read_bound {p : Nat} (h : p % 9223372036854775808 < 9218868437227405312) : ∃ s m e, double.read p = .number s m e ∧ m ≤ 9007199254740991 ∧ e ≤ 971 := by
  unfold Format.read
  simp only [sw, ir, bi]
  have hl : double.leastPlace = -1074 := by decide
  split
  · exact ⟨_, _, _, rfl, by omega, by rw [hl]; decide⟩
  · exact ⟨_, _, _, rfl, by omega, by rw [hl]; omega⟩
theorem read_max : double.read 9218868437227405311 = .number false 9007199254740991 971 := by decide
theorem read_min : double.read 18442240474082181119 = .number true 9007199254740991 971 := by decide
theorem shl_ge (m k : Nat) : m ≤ m <<< k := by rw [Nat.shiftLeft_eq]; exact Nat.le_mul_of_pos_right _ (Nat.two_pow_pos k)
theorem signed_le {m k : Nat} (s : Bool) (hm : m ≤ 9007199254740991) : -signed false 9007199254740991 k ≤ signed s m 0 ∧ signed s m 0 ≤ signed false 9007199254740991 k := by
  have h := shl_ge 9007199254740991 k
  unfold signed
  rw [Nat.shiftLeft_zero]
  generalize 9007199254740991 <<< k = y at *
  cases s <;> simp <;> omega
theorem order_fin {p : Nat} (h : p % 9223372036854775808 < 9218868437227405312) : (double.order p 9218868437227405311 == some .lt || double.order p 9218868437227405311 == some .eq) = true ∧ (double.order p 18442240474082181119 == some .gt || double.order p 18442240474082181119 == some .eq) = true := by
  obtain ⟨s, m, e, hr, hm, he⟩ := read_bound h
  unfold Format.order
  rw [hr, read_max, read_min]
  simp only [Datum.order]
  have e0 : min e 971 = e := by omega
  rw [e0, Int.sub_self, Int.toNat_zero]
  obtain ⟨h1, h2⟩ := signed_le (k := (971 - e).toNat) s hm
  have hn : signed true 9007199254740991 (971 - e).toNat = -signed false 9007199254740991 (971 - e).toNat := rfl
  rw [hn]
  generalize signed s m 0 = x at *
  generalize signed false 9007199254740991 (971 - e).toNat = y at *
  constructor
  · rcases Int.lt_or_eq_of_le h2 with h | h
    · simp [compare, compareOfLessAndEq, h]
    · simp [compare, compareOfLessAndEq, h]
  · rcases Int.lt_or_eq_of_le h1 with h | h
    · have h3 : ¬ x < -y := by omega
      have h4 : ¬ x = -y := by omega
      simp [compare, compareOfLessAndEq, h3, h4]
    · simp [compare, compareOfLessAndEq, ← h]
theorem order_not {p : Nat} (h : ¬ p % 9223372036854775808 < 9218868437227405312) : ((double.order p 18442240474082181119 == some .gt || double.order p 18442240474082181119 == some .eq) && (double.order p 9218868437227405311 == some .lt || double.order p 9218868437227405311 == some .eq)) = false := by
  unfold Format.order
  rw [read_max, read_min]
  rcases read_not h with ⟨s, hr⟩ | ⟨s, t, hr⟩
  · rw [hr]
    cases s <;> simp [Datum.order]
  · rw [hr]
    simp [Datum.order]
end Go.Proofs.Ytkfblapfphnggaa
/- General laws, of no program: an append of whatever onto a slice that the call owns; worlds that turn at few blocks. -/
namespace Go.Proofs.Ytkfblapfphnggaa
open Go.RowKit

/-- It returns v, and nothing that was there has turned. -/
def RB (W : World) (v : Value) (e : Ending) (w' : World) : Prop := e = .returned v ∧ Below W.heap.size W w'
/-- It returns v, and the world is as it was. -/
def RW (w : World) (v : Value) (e : Ending) (w' : World) : Prop := e = .returned v ∧ w = w'
/-- It returns, as R says, and nothing that was there has turned. -/
def RE (W : World) (R : Value → World → Prop) (e : Ending) (w' : World) : Prop := ∃ v, e = .returned v ∧ R v w' ∧ Below W.heap.size W w'
theorem ret_bool {a b : Bool} (h : a = b) : Ending.returned (.bool a) = .returned (.bool b) := by rw [h]
theorem ret_int {k : IntKind} {a b : Int} (h : a = b) : Ending.returned (.int k a) = .returned (.int k b) := by rw [h]
theorem ret_val {a b : Value} (h : a = b) : Ending.returned a = .returned b := by rw [h]

/-- all old cells and marks read as before -/
theorem bcell {W w1 : World} (hb : Below W.heap.size W w1) : (∀ b o, b < W.heap.size → w1.cell? ⟨b, o, none⟩ = W.cell? ⟨b, o, none⟩) ∧ (∀ b o, b < W.heap.size → w1.frozen? ⟨b, o, none⟩ = W.frozen? ⟨b, o, none⟩) :=
  ⟨fun b o h => hb.cell (p := ⟨b, o, none⟩) h, fun b o h => hb.frozen (p := ⟨b, o, none⟩) h⟩
theorem heap_new (w : World) (o : Obj) : (w.alloc o).heap[w.heap.size]? = some o := by
  show (w.heap.push o)[w.heap.size]? = some o
  simp
theorem cell_lt {W : World} {b o : Nat} {v : Value} (h : W.cell? ⟨b, o, none⟩ = some v) : b < W.heap.size := by
  unfold World.cell? at h
  cases ho : W.heap[b]? with
  | none => simp [ho] at h
  | some _ => exact (Array.getElem?_eq_some_iff.1 ho).1
theorem below_bytesWorld (w : World) (e : TypeId) (s : ByteArray) : Below w.heap.size w (Lib.bytesWorld w e s) := by
  refine ⟨?_, ?_, ?_, ?_, fun k hk => Lib.bytesWorld_at_old w e s k hk⟩
  · simp [Lib.bytesWorld, World.freeze, World.alloc, World.drew, -World.alloc_eq, -World.drew_eq]
  · simp [Lib.bytesWorld, World.freeze, World.alloc, World.drew, -World.alloc_eq, -World.drew_eq]
  · simp [Lib.bytesWorld, World.freeze, World.alloc, World.drew, -World.alloc_eq, -World.drew_eq]
  · rw [Lib.bytesWorld_size]; omega

/-- THE WORLD HAS TURNED AT THE BLOCKS OF S ALONE (and has new ones). -/
structure Turn (S : Nat → Prop) (w w' : World) : Prop where
  os : w'.os = w.os
  tape : w'.tape = w.tape
  output : w'.output = w.output
  size : w.heap.size ≤ w'.heap.size
  block : ∀ k, k < w.heap.size → ¬ S k → w'.heap[k]? = w.heap[k]?
theorem Turn.refl (S : Nat → Prop) (w : World) : Turn S w w := ⟨rfl, rfl, rfl, Nat.le_refl _, fun _ _ _ => rfl⟩
theorem Turn.trans {S : Nat → Prop} {a b c : World} (h : Turn S a b) (k : Turn S b c) : Turn S a c :=
  ⟨k.os.trans h.os, k.tape.trans h.tape, k.output.trans h.output, Nat.le_trans h.size k.size, fun i hi hn => (k.block i (Nat.lt_of_lt_of_le hi h.size) hn).trans (h.block i hi hn)⟩
/-- what is allowed on the second way only needs to lie in S or be new -/
theorem Turn.andThen {S S' : Nat → Prop} {a b c : World} (h : Turn S a b) (k : Turn S' b c) (hS : ∀ i, S' i → S i ∨ a.heap.size ≤ i) : Turn S a c :=
  ⟨k.os.trans h.os, k.tape.trans h.tape, k.output.trans h.output, Nat.le_trans h.size k.size, fun i hi hn => (k.block i (Nat.lt_of_lt_of_le hi h.size) (fun hs => (hS i hs).elim hn (by omega))).trans (h.block i hi hn)⟩
theorem Turn.mono {S S' : Nat → Prop} {a b : World} (h : Turn S a b) (hS : ∀ i, i < a.heap.size → S i → S' i) : Turn S' a b :=
  ⟨h.os, h.tape, h.output, h.size, fun i hi hn => h.block i hi fun hs => hn (hS i hi hs)⟩
theorem Turn.of_below {S : Nat → Prop} {a b : World} (h : Below a.heap.size a b) : Turn S a b := ⟨h.os, h.tape, h.output, h.size, fun i hi _ => h.block i hi⟩
theorem Turn.below {S : Nat → Prop} {a b : World} {B : Nat} (h : Turn S a b) (hB : B ≤ a.heap.size) (hS : ∀ i, S i → B ≤ i) : Below B a b :=
  ⟨h.os, h.tape, h.output, h.size, fun i hi => h.block i (by omega) fun hs => by have := hS i hs; omega⟩
theorem Turn.of_grownBy {a b : World} {row : Option Nat} (h : a.grownBy b row) : Turn (fun i => row = some i) a b :=
  ⟨h.os, h.tape, h.output, h.size, fun i hi hn => h.block i hi (fun e => hn e.symm)⟩
theorem Turn.alloc (S : Nat → Prop) (w : World) (o : Obj) : Turn S w (w.alloc o) := .of_below ((Below.refl _ w).alloc (Nat.le_refl _) o)
theorem Turn.drew {S : Nat → Prop} {a b : World} (h : Turn S a b) : Turn S a b.drew := ⟨h.os, h.tape, h.output, h.size, h.block⟩
theorem Turn.setCell (w : World) (b o : Nat) (v : Value) : Turn (fun i => i = b) w (w.setCell ⟨b, o, none⟩ v) :=
  ⟨rfl, rfl, rfl, by simp [World.setCell], fun k _ hk => Below.heap_setCell _ _ _ _ hk⟩

section
variable {P : Program} (w : World)
theorem run_append_own_src (base : Nat) (t tx ty e : TypeId) (i : TypeInfo) (z : Value) (size bytes : Nat) (ht : P.underlying t = some (.slice e)) (hi : P.info? e = some i) (hz : i.zero = some z)
    (hsize : i.size = size) (hby : i.bytes = bytes) (hzs : z.cells.size = size) (hsz : 0 < size)
    (v : Value) (n : Nat) (xs : List Value) (hown : w.ownsRow base e size v n xs) (x : Value) (m : Nat) (news : List Value) (hs : Src P size tx x m news w)
    (h63 : n + m ≤ maxLen) (hbytes : (n + m) * bytes ≤ 140737488355328) (hbase : base ≤ w.heap.size) :
    ∃ v' w', (Builtin.append_ #[t, tx] ty #[v, x]).run P w = .ok v' w' ∧ w'.ownsRow base e size v' (n + m) (xs ++ news) ∧ w.grownBy w' v.ownBlock ∧
      (v' = .slice none 0 0 ↔ v = .slice none 0 0 ∧ m = 0) ∧ (v'.ownBlock = v.ownBlock ∨ v'.ownBlock = some w.heap.size) := by
  subst hsize
  subst hby
  have hsmall : n + m ≤ 9223372036854775807 := by simp only [maxLen] at h63; omega
  have hl := hs.newsLen
  have hlen : (xs ++ news).length = (n + m) * i.size := by rw [List.length_append, hown.1, hl, Nat.add_mul]
  have grown : ∀ (old : Nat), old < n + m → ∀ (row : Option Nat),
      (w.drew.alloc (.cells ((xs ++ news).toArray ++ Builtin.zeroCells z.cells (grownCap w (n + m) old e - (n + m))) e)).ownsRow base e i.size
        (.slice (some ⟨w.heap.size, 0, none⟩) (n + m) (grownCap w (n + m) old e)) (n + m) (xs ++ news) ∧
      w.grownBy (w.drew.alloc (.cells ((xs ++ news).toArray ++ Builtin.zeroCells z.cells (grownCap w (n + m) old e - (n + m))) e)) row := by
    intro old ho row
    have hge := grownCap_ge w (n + m) old e
    have hcm : grownCap w (n + m) old e ≤ maxLen := grownCap_le_maxLen w (n + m) old e h63
    refine ⟨⟨hlen, .inr ⟨w.heap.size, _, _, rfl, hbase, _root_.Go.heap_alloc_new w.drew _, hge, hcm, ?_, ?_⟩⟩, ⟨rfl, rfl, rfl, by simp, fun k hk _ => Below.heap_alloc w.drew _ k hk⟩⟩
    · simp only [Array.size_append, List.size_toArray, size_zeroCells, hzs, hlen, ← Nat.add_mul]
      congr 1
      omega
    · simp only [Array.toList_append]
      rw [← hlen]
      exact List.take_left
  rcases hown.2 with ⟨rfl, rfl⟩ | ⟨g, cap, cur, rfl, hbg, hg, hnc, hcm, hcs, htake⟩
  · have hx : xs = [] := List.eq_nil_of_length_eq_zero (by simpa using hown.1)
    subst hx
    by_cases hm : m = 0
    · subst hm
      have hn : news = [] := List.eq_nil_of_length_eq_zero (by simpa using hl)
      subst hn
      refine ⟨.slice none 0 0, w, ?_, World.ownsRow_nil w base e i.size, ⟨rfl, rfl, rfl, Nat.le_refl _, fun _ _ _ => rfl⟩, by simp, Or.inl rfl⟩
      rcases hs.kind with ⟨e', hk⟩ | hk <;> simp [Builtin.append_, run_underlying ht, run_underlying hk, sizeOf, typeInfo, hi, hs.len, hs.cells]
    · have hr := run_append_grow_src (P := P) w t tx ty e i z ht hi hz none 0 0 [] (by simp [Builtin.firstCells]) x m news hs (by omega) (by omega) (growslice_fits (by omega) (by simpa using hbytes))
      have hgr := grown 0 (by omega) (Value.ownBlock (.slice none 0 0))
      simp only [Nat.zero_add, List.nil_append] at hgr hr ⊢
      exact ⟨_, _, hr, hgr.1, hgr.2, by simp [hm], Or.inr rfl⟩
  · by_cases hroom : n + m ≤ cap
    · have hfit : n * i.size + news.length ≤ cur.size := by rw [hl, hcs, ← Nat.add_mul]; exact Nat.mul_le_mul_right _ hroom
      have hst := run_storeCells_at P g (n * i.size) e news 0 cur w hg (by simpa using hfit) hs.one
      simp only [Nat.add_zero] at hst
      have hr : (Builtin.append_ #[t, tx] ty #[.slice (some ⟨g, 0, none⟩) n cap, x]).run P w =
          .ok (.slice (some ⟨g, 0, none⟩) (n + m) cap) (w.setRow g (cur.toList.take (n * i.size) ++ news ++ cur.toList.drop (n * i.size + news.length)).toArray) := by
        rcases hs.kind with ⟨e', hk⟩ | hk <;> simp [Builtin.append_, run_underlying ht, run_underlying hk, sizeOf, typeInfo, hi, hs.len, hroom, hs.cells, Addr.add_lit, hst]
      refine ⟨_, _, hr, ⟨hlen, .inr ⟨g, cap, _, rfl, hbg, setRow_heap w g cur _ e _ hg, hroom, hcm, ?_, ?_⟩⟩, ⟨rfl, rfl, rfl, by simp, fun k _ hk => setRow_other w g k _ (fun e => hk (by simp [Value.ownBlock, e]))⟩, by simp, Or.inl rfl⟩
      · simp only [List.size_toArray, List.length_append, List.length_take, List.length_drop, Array.length_toList]
        omega
      · rw [htake, ← hlen]
        exact List.take_left
    · have holds : ∀ j u, xs[j]? = some u → w.cell? ((⟨g, 0, none⟩ : Addr).add j) = some u := hown.cells (g := g) rfl
      have hf := run_firstCells_some (P := P) w.drew i.size n ⟨g, 0, none⟩ n cap xs hown.1 (by simpa using holds)
      have hr := run_append_grow_src (P := P) w t tx ty e i z ht hi hz (some ⟨g, 0, none⟩) n cap xs hf x m news hs (by omega) (by omega) (growslice_fits (by omega) hbytes)
      have hgr := grown cap (by omega) (Value.ownBlock (.slice (some ⟨g, 0, none⟩) n cap))
      exact ⟨_, _, hr, hgr.1, hgr.2, by simp, Or.inr rfl⟩

/-- AT THE OPERATION -/
theorem wpList_app {ops : Array Oper} {rest : List Oper} {o : Oper} {a : Act} {Q : Exit → Act → World → Prop} (hgd : o.guard = none) (s x : Operand) (t tx : TypeId)
    (ho : o.op = .call { callee := .builtin .append, args := #[s, x], argTypes := #[t, tx] })
    (base : Nat) (e : TypeId) (i : TypeInfo) (z : Value) (size bytes : Nat) (ht : P.underlying t = some (.slice e)) (hi : P.info? e = some i) (hz : i.zero = some z)
    (hsize : i.size = size) (hby : i.bytes = bytes) (hzs : z.cells.size = size) (hsz : 0 < size)
    (v : Value) (n : Nat) (xs : List Value) (hs : a.eval s = v) (hown : w.ownsRow base e size v n xs) (u : Value) (m : Nat) (news : List Value) (hx : a.eval x = u) (hsrc : Src P size tx u m news w)
    (h63 : n + m ≤ maxLen) (hbytes : (n + m) * bytes ≤ 140737488355328) (hbase : base ≤ w.heap.size)
    (h : ∀ (a' : Option Addr) (c' : Nat) w', w'.ownsRow base e size (.slice a' (n + m) c') (n + m) (xs ++ news) → w.grownBy w' v.ownBlock → (n + m = 0 → v = .slice none 0 0 → a' = none) → ((Value.slice a' (n + m) c').ownBlock = v.ownBlock ∨ (Value.slice a' (n + m) c').ownBlock = some w.heap.size) → wpList P ops Q rest (a.put o.dst (.slice a' (n + m) c')) w') :
    wpList P ops Q (o :: rest) a w := by
  refine wpList_plain hgd fun K hK => ?_
  obtain ⟨v', w', hr, h2, h3, h4, h5⟩ := run_append_own_src (P := P) w base t tx o.type e i z size bytes ht hi hz hsize hby hzs hsz v n xs hown u m news hsrc h63 hbytes hbase
  obtain ⟨a', c', rfl⟩ : ∃ a' c', v' = .slice a' (n + m) c' := by
    rcases h2.2 with ⟨rfl, h0⟩ | ⟨g, cap, cur, rfl, _⟩
    · exact ⟨none, 0, by rw [h0]⟩
    · exact ⟨_, _, rfl⟩
  have h4 : n + m = 0 → v = .slice none 0 0 → a' = none := fun e1 e2 => by
    have := h4.2 ⟨e2, by omega⟩
    simp at this
    exact this.1
  unfold Oper.wp execOp
  simp only [ho, resolve, invoke, builtin, Sem.run_bind, Sem.run_pure, Result.andThen_ok, List.map_toArray, List.map_cons, List.map_nil, hs, hx, hr]
  exact hK _ _ (h a' c' w' h2 h3 h4 h5)
theorem ownsRow_empty (e : TypeId) (size : Nat) : (w.alloc (.cells #[] e)).ownsRow w.heap.size e size (.slice (some ⟨w.heap.size, 0, none⟩) 0 0) 0 [] :=
  ⟨by simp, .inr ⟨w.heap.size, 0, #[], rfl, Nat.le_refl _, heap_new w _, Nat.le_refl _, Nat.zero_le _, by simp, by simp⟩⟩
/-- one value in a block of its own, as append lays it -/
theorem src_one {tx e' : TypeId} (hk : P.underlying tx = some (.slice e')) (u : Value) (t : TypeId) (hu : u.oneCell' = true) : Src P 1 tx (.slice (some ⟨w.heap.size, 0, none⟩) 1 1) 1 [u] (w.alloc (.cells #[u] t)) :=
  Src.ofSlice _ hk _ _ _ _ rfl (cell_one_new _ _ _) (by simpa using hu)
end
end Go.Proofs.Ytkfblapfphnggaa
