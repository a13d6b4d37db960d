/- Several texts in one. -/
import Derived.Test.YtgadkiljnebicaaD02
import Derived.Test.YtgadkiljnebicaaD01
import Derived.Laws.FloatArith
import Derived.Deep.DeepMust
import Derived.Maps.OwnOps
import Derived.Maps.OwnSet
import Derived.StringKeys
namespace Go.Proofs.Ytgadkiljnebicaa
open Go.Lib (hid)
open Go.RowKit
inductive Fld where
 | f | t | r | n | x
 deriving DecidableEq
def Tm.hd : Tm → Hd
 | .mk h _ => h
def Tm.l : Tm → List Tm
 | .mk _ l => l
def flds (k : Int) : List Fld :=
 if k = 1 then [.f,.t,.x] else if k = 2 ∨ k = 3 then [.f,.t] else if k = 4 then [.f,.t,.n,.x]
 else if k = 5 ∨ k = 6 then [.f,.t,.r] else if k = 7 then [.f,.t,.r,.x] else if k = 8 ∨ k = 10 ∨ k = 11 then [.f,.r,.x]
 else if k = 9 then [.t,.r,.x] else []
def pairB (k : Int) (t : Tm) : Bool :=
 match t.l with
 | [a,b] => decide (t.hd.kind = 6 ∧ a.hd.kind = 3 ∧ b.hd.kind = k)
 | _ => false
def shapedB (k : Int) (t : Tm) : Bool :=
 if k = 8 then pairB 7 t else if k = 10 then pairB 5 t else if k = 11 then decide (t.hd.kind = 3) else true
def fitB (k : Int) (c : Fld) (t : Tm) : Bool :=
 match c with
 | .f => decide (t.hd.kind = 5)
 | .t => decide (t.hd.kind = 5)
 | .r => decide (t.hd.kind = 4)
 | .n => decide (t.hd.kind = 1 ∧ (t.hd.n = 1 ∨ t.hd.n = 2))
 | .x => shapedB k t
def fitsB (k : Int) : List Fld → List Tm → Bool
 | [],[] => true
 | c :: cs,t :: ts => fitB k c t && fitsB k cs ts
 | _,_ => false
def sigB (t : Tm) : Bool :=
 match t.l with
 | [] => false
 | a :: rest => decide (t.hd.kind = 6 ∧ a.hd.kind = 1 ∧ 1 ≤ a.hd.n ∧ a.hd.n ≤ 11) && fitsB a.hd.n (flds a.hd.n) rest
def ctlP (bs : List UInt8) : Except Int Tm :=
 if 1000 < bs.length then .error 231
 else match decodeP bs with
  | .error e => .error e
  | .ok t => if sigB t = true then .ok t else .error 230
structure Sg where
 kind : Int := 0
 fr : Int × Int × Int := (0,0,0)
 «to» : Int × Int × Int := (0,0,0)
 rf : Int × Int × Int := (0,0,0)
 x : Option Tm := none
 n : Int := 0
def idOf (t : Tm) : Int × Int × Int := (t.hd.node,t.hd.boot,t.hd.idn)
def putF (s : Sg) (c : Fld) (t : Tm) : Sg :=
 match c with
 | .f => { s with fr := idOf t }
 | .t => { s with «to» := idOf t }
 | .r => { s with rf := idOf t }
 | .n => { s with n := t.hd.n }
 | .x => { s with x := some t }
def putsF (s : Sg) : List Fld → List Tm → Sg
 | c :: cs,t :: ts => putsF (putF s c t) cs ts
 | _,_ => s
def sgOf (t : Tm) : Sg :=
 match t.l with
 | [] => {}
 | a :: rest => putsF { kind := a.hd.n } (flds a.hd.n) rest
theorem fits_length {k : Int} : ∀ {cs : List Fld} {ts : List Tm},fitsB k cs ts = true → cs.length = ts.length
 | [],[],_ => rfl
 | c :: cs,t :: ts,h => by
  simp only [fitsB,Bool.and_eq_true] at h
  simp [fits_length h.2]
 | [],_ :: _,h => by simp [fitsB] at h
 | _ :: _,[],h => by simp [fitsB] at h
theorem fits_of_length {k : Int} : ∀ {cs : List Fld} {ts : List Tm},¬ cs.length = ts.length → fitsB k cs ts = false := by
 intro cs ts h
 cases e : fitsB k cs ts
 ·rfl
 ·exact absurd (fits_length e) h
theorem kind_cases {k : Int} (h1 : 1 ≤ k) (h2 : k ≤ 11) : k = 1 ∨ k = 2 ∨ k = 3 ∨ k = 4 ∨ k = 5 ∨ k = 6 ∨ k = 7 ∨ k = 8 ∨ k = 9 ∨ k = 10 ∨ k = 11 := by omega
end Go.Proofs.Ytgadkiljnebicaa
namespace Go.Proofs.Ytgadkiljnebicaa
open Go.Lib (hid)
open Go.RowKit
set_option maxRecDepth 100000
def markK (k : Int) : Int :=
 if k = 1 then 19 else if k = 2 ∨ k = 3 then 3 else if k = 4 then 27 else if k = 5 ∨ k = 6 then 7 else if k = 7 then 23 else if k = 8 ∨ k = 10 ∨ k = 11 then 21 else if k = 9 then 22 else 0
def letK (k : Int) : ByteArray :=
 if k = 1 then ⟨#[102,116,120]⟩ else if k = 2 ∨ k = 3 then ⟨#[102,116]⟩ else if k = 4 then ⟨#[102,116,110,120]⟩ else if k = 5 ∨ k = 6 then ⟨#[102,116,114]⟩
 else if k = 7 then ⟨#[102,116,114,120]⟩ else if k = 8 ∨ k = 10 ∨ k = 11 then ⟨#[102,114,120]⟩ else if k = 9 then ⟨#[116,114,120]⟩ else ⟨#[]⟩
set_option maxHeartbeats 2000000 in
theorem fields_any (k : Int) (h1 : 1 ≤ k) (h2 : k ≤ 11) (w : World) : Calls Try.prog 12 #[.int .i64 k] w (RB w (.int .i64 (markK k))) := by
 go_enter Try.func12,Try.ntmps12
 rcases kind_cases h1 h2 with rfl | rfl | rfl | rfl | rfl | rfl | rfl | rfl | rfl | rfl | rfl <;>
  (go_wp2; exact bodyPost_ret (v := .int .i64 _) (by simp [results,Try.results12,go_sem,markK]) rfl ⟨rfl,Below.refl _ _⟩)
set_option maxHeartbeats 2000000 in
theorem fieldsD_any (k : Int) (h1 : 1 ≤ k) (h2 : k ≤ 11) (w : World) : Calls Try.prog 15 #[.int .i64 k] w (RB w (.string (letK k))) := by
 go_enter Try.func15,Try.ntmps15
 rcases kind_cases h1 h2 with rfl | rfl | rfl | rfl | rfl | rfl | rfl | rfl | rfl | rfl | rfl <;>
  (go_wp2; exact bodyPost_ret (v := .string _) (by simp [results,Try.results15,go_sem,letK]) rfl ⟨rfl,(Below.refl w.heap.size w).alloc (Nat.le_refl _) _⟩)
def hasB (s : ByteArray) (c : Nat) : Bool := s.data.toList.any (fun x => x.toNat == c)
theorem byte_at (s : ByteArray) {k : Nat} (hk : k < s.size) : s.data.toList[k]? = some (s[k]'hk) := by
 rw [Array.getElem?_toList]
 exact Array.getElem?_eq_getElem (by simpa using hk)
theorem hasB_true {s : ByteArray} {c k : Nat} (hk : k < s.size) (h : (s[k]'hk).toNat = c) : hasB s c = true := by
 unfold hasB
 rw [List.any_eq_true]
 exact ⟨s[k]'hk,List.mem_of_getElem? (byte_at s hk),by simp [h]⟩
theorem hasB_false {s : ByteArray} {c : Nat} (h : ∀ j (hj : j < s.size),¬ (s[j]'hj).toNat = c) : hasB s c = false := by
 unfold hasB
 rw [List.any_eq_false]
 intro x hx
 obtain ⟨j,hj⟩ := List.getElem?_of_mem hx
 have hl : j < s.size := by
  have := (List.getElem?_eq_some_iff.1 hj).1
  simpa using this
 rw [byte_at s hl] at hj
 obtain rfl := Option.some.inj hj
 simpa using h j hl
end Go.Proofs.Ytgadkiljnebicaa
namespace Go.Proofs.Ytgadkiljnebicaa
open Go.Lib (hid)
open Go.RowKit Ieee
set_option maxRecDepth 100000
theorem sw : double.signWeight = 9223372036854775808 := by decide
theorem ir : double.infRung = 9218868437227405312 := by decide
theorem bi : double.binade = 4503599627370496 := by decide
theorem read_fin {p : Nat} (h : p % 9223372036854775808 < 9218868437227405312) : ∃ s m e,double.read p = .number s m e := by
 unfold Format.read
 simp only [sw,ir,bi]
 split
 ·exact ⟨_,_,_,rfl⟩
 ·exact ⟨_,_,_,rfl⟩
theorem read_not {p : Nat} (h : ¬ p % 9223372036854775808 < 9218868437227405312) : (∃ s,double.read p = .infinity s) ∨ ∃ s t,double.read p = .nan s t := by
 unfold Format.read
 simp only [sw,ir,bi]
 rw [if_neg (by omega),if_neg h]
 split
 ·exact .inl ⟨_,rfl⟩
 ·exact .inr ⟨_,_,rfl⟩
theorem sub_self_fin {p : Nat} (h : p % 9223372036854775808 < 9218868437227405312) : double.sub p p = some 0 := by
 obtain ⟨s,m,e,hr⟩ := read_fin h
 unfold Format.sub
 rw [hr]
 have ht : ∀ k,signed s m k + signed (!s) m k = 0 := fun k => by cases s <;> simp [signed] <;> omega
 simp only [Datum.opposite,Datum.sum,ht,if_true,Option.map_some]
 cases s <;> simp [Format.write,Format.nearest,Format.word]
theorem sub_self_not {p : Nat} (h : ¬ p % 9223372036854775808 < 9218868437227405312) : double.sub p p = none := by
 unfold Format.sub
 rcases read_not h with ⟨s,hr⟩ | ⟨s,t,hr⟩
 ·rw [hr]
  cases s <;> simp [Datum.opposite,Datum.sum]
 ·rw [hr]
  simp [Datum.sum]
theorem read_bound {p : Nat} (h : p % 9223372036854775808 < 9218868437227405312) : ∃ s m e,double.read p = .number s m e ∧ m ≤ 9007199254740991 ∧ e ≤ 971 := by
 unfold Format.read
 simp only [sw,ir,bi]
 have hl : double.leastPlace = -1074 := by decide
 split
 ·exact ⟨_,_,_,rfl,by omega,by rw [hl]; decide⟩
 ·exact ⟨_,_,_,rfl,by omega,by rw [hl]; omega⟩
theorem read_max : double.read 9218868437227405311 = .number false 9007199254740991 971 := by decide
theorem read_min : double.read 18442240474082181119 = .number true 9007199254740991 971 := by decide
theorem shl_ge (m k : Nat) : m ≤ m <<< k := by rw [Nat.shiftLeft_eq]; exact Nat.le_mul_of_pos_right _ (Nat.two_pow_pos k)
theorem signed_le {m k : Nat} (s : Bool) (hm : m ≤ 9007199254740991) : -signed false 9007199254740991 k ≤ signed s m 0 ∧ signed s m 0 ≤ signed false 9007199254740991 k := by
 have h := shl_ge 9007199254740991 k
 unfold signed
 rw [Nat.shiftLeft_zero]
 generalize 9007199254740991 <<< k = y at *
 cases s <;> simp <;> omega
theorem order_fin {p : Nat} (h : p % 9223372036854775808 < 9218868437227405312) : (double.order p 9218868437227405311 == some .lt || double.order p 9218868437227405311 == some .eq) = true ∧ (double.order p 18442240474082181119 == some .gt || double.order p 18442240474082181119 == some .eq) = true := by
 obtain ⟨s,m,e,hr,hm,he⟩ := read_bound h
 unfold Format.order
 rw [hr,read_max,read_min]
 simp only [Datum.order]
 have e0 : min e 971 = e := by omega
 rw [e0,Int.sub_self,Int.toNat_zero]
 obtain ⟨h1,h2⟩ := signed_le (k := (971 - e).toNat) s hm
 have hn : signed true 9007199254740991 (971 - e).toNat = -signed false 9007199254740991 (971 - e).toNat := rfl
 rw [hn]
 generalize signed s m 0 = x at *
 generalize signed false 9007199254740991 (971 - e).toNat = y at *
 constructor
 ·rcases Int.lt_or_eq_of_le h2 with h | h
  ·simp [compare,compareOfLessAndEq,h]
  ·simp [compare,compareOfLessAndEq,h]
 ·rcases Int.lt_or_eq_of_le h1 with h | h
  ·have h3 : ¬ x < -y := by omega
   have h4 : ¬ x = -y := by omega
   simp [compare,compareOfLessAndEq,h3,h4]
  ·simp [compare,compareOfLessAndEq,← h]
theorem order_not {p : Nat} (h : ¬ p % 9223372036854775808 < 9218868437227405312) : ((double.order p 18442240474082181119 == some .gt || double.order p 18442240474082181119 == some .eq) && (double.order p 9218868437227405311 == some .lt || double.order p 9218868437227405311 == some .eq)) = false := by
 unfold Format.order
 rw [read_max,read_min]
 rcases read_not h with ⟨s,hr⟩ | ⟨s,t,hr⟩
 ·rw [hr]
  cases s <;> simp [Datum.order]
 ·rw [hr]
  simp [Datum.order]
end Go.Proofs.Ytgadkiljnebicaa
namespace Go.Proofs.Ytgadkiljnebicaa
open Go.Lib (hid)
open Go.RowKit
set_option maxRecDepth 100000
theorem classes (c : Int) (h0 : 0 ≤ c) : (0 ≤ c ∧ c ≤ 47 ∧ (c == 95) = false ∧ decide (c ≤ 122) = true ∧ decide (c ≤ 90) = true ∧ decide (c ≤ 57) = true) ∨
    (48 ≤ c ∧ c ≤ 57 ∧ (c == 95) = false ∧ decide (c ≤ 122) = true ∧ decide (c ≤ 90) = true ∧ decide (c ≤ 57) = true) ∨
    (58 ≤ c ∧ c ≤ 64 ∧ (c == 95) = false ∧ decide (c ≤ 122) = true ∧ decide (c ≤ 90) = true ∧ decide (c ≤ 57) = false) ∨
    (65 ≤ c ∧ c ≤ 90 ∧ (c == 95) = false ∧ decide (c ≤ 122) = true ∧ decide (c ≤ 90) = true ∧ decide (c ≤ 57) = false) ∨
    (91 ≤ c ∧ c ≤ 94 ∧ (c == 95) = false ∧ decide (c ≤ 122) = true ∧ decide (c ≤ 90) = false ∧ decide (c ≤ 57) = false) ∨
    (95 ≤ c ∧ c ≤ 95 ∧ (c == 95) = true ∧ decide (c ≤ 122) = true ∧ decide (c ≤ 90) = false ∧ decide (c ≤ 57) = false) ∨
    (96 ≤ c ∧ c ≤ 96 ∧ (c == 95) = false ∧ decide (c ≤ 122) = true ∧ decide (c ≤ 90) = false ∧ decide (c ≤ 57) = false) ∨
    (97 ≤ c ∧ c ≤ 122 ∧ (c == 95) = false ∧ decide (c ≤ 122) = true ∧ decide (c ≤ 90) = false ∧ decide (c ≤ 57) = false) ∨
    (123 ≤ c ∧ c ≤ c ∧ (c == 95) = false ∧ decide (c ≤ 122) = false ∧ decide (c ≤ 90) = false ∧ decide (c ≤ 57) = false) := by
  by_cases h0 : c ≤ 47
  · exact .inl ⟨by omega,by omega,beq_eq_false_iff_ne.2 (by omega),decide_eq_true (by omega),decide_eq_true (by omega),decide_eq_true (by omega)⟩
  by_cases h1 : c ≤ 57
  · exact .inr (.inl ⟨by omega,by omega,beq_eq_false_iff_ne.2 (by omega),decide_eq_true (by omega),decide_eq_true (by omega),decide_eq_true (by omega)⟩)
  by_cases h2 : c ≤ 64
  · exact .inr (.inr (.inl ⟨by omega,by omega,beq_eq_false_iff_ne.2 (by omega),decide_eq_true (by omega),decide_eq_true (by omega),decide_eq_false (by omega)⟩))
  by_cases h3 : c ≤ 90
  · exact .inr (.inr (.inr (.inl ⟨by omega,by omega,beq_eq_false_iff_ne.2 (by omega),decide_eq_true (by omega),decide_eq_true (by omega),decide_eq_false (by omega)⟩)))
  by_cases h4 : c ≤ 94
  · exact .inr (.inr (.inr (.inr (.inl ⟨by omega,by omega,beq_eq_false_iff_ne.2 (by omega),decide_eq_true (by omega),decide_eq_false (by omega),decide_eq_false (by omega)⟩))))
  by_cases h5 : c ≤ 95
  · exact .inr (.inr (.inr (.inr (.inr (.inl ⟨by omega,by omega,beq_iff_eq.2 (by omega),decide_eq_true (by omega),decide_eq_false (by omega),decide_eq_false (by omega)⟩)))))
  by_cases h6 : c ≤ 96
  · exact .inr (.inr (.inr (.inr (.inr (.inr (.inl ⟨by omega,by omega,beq_eq_false_iff_ne.2 (by omega),decide_eq_true (by omega),decide_eq_false (by omega),decide_eq_false (by omega)⟩))))))
  by_cases h7 : c ≤ 122
  · exact .inr (.inr (.inr (.inr (.inr (.inr (.inr (.inl ⟨by omega,by omega,beq_eq_false_iff_ne.2 (by omega),decide_eq_true (by omega),decide_eq_false (by omega),decide_eq_false (by omega)⟩)))))))
  exact .inr (.inr (.inr (.inr (.inr (.inr (.inr (.inr ⟨by omega,by omega,beq_eq_false_iff_ne.2 (by omega),decide_eq_false (by omega),decide_eq_false (by omega),decide_eq_false (by omega)⟩)))))))
theorem small_of {c : Nat} (h1 : 97 ≤ (c : Int)) (h2 : (c : Int) ≤ 122) : small c = true := by unfold small; simp; omega
theorem small_not {c : Nat} (h : (c : Int) < 97 ∨ 122 < (c : Int)) : small c = false := by unfold small; simp; omega
theorem len_ne {s : ByteArray} (h : ¬ s.size = 0) : ((s.size : Int) == 0) = false := by rw [beq_eq_false_iff_ne]; omega
def nameRel (s : ByteArray) (r i : Value) : Prop := ∃ k : Nat,k ≤ s.size ∧ i = .int .i64 k ∧ r = .bool false ∧ okTo s k ∧ (0 < k → small (s.data.toList.getD 0 0).toNat = true)
theorem getB (s : ByteArray) {k : Nat} (h : k < s.size) : (s.data.toList.getD k 0).toNat = (s[k]'h).toNat := by rw [getD_at s h]; rfl
theorem first_bad {s : ByteArray} {k : Nat} (hk : k < s.size) (hg : (s.data.toList.getD k 0).toNat = (s[k]'hk).toNat) (h : (k = 0 ∧ small (s[k]'hk).toNat = false) ∨ okb (s[k]'hk).toNat = false) : nameB s = false := by
  rcases h with ⟨rfl,h⟩ | h
  · exact nameB_first (by rw [hg]; exact h)
  · exact nameB_bad hk (by rw [hg]; exact h)
set_option maxHeartbeats 2000000 in
theorem name_any (s : ByteArray) (w : World) (hs : s.size ≤ maxLen) :
    Calls Try.prog 80 #[.string s] w (RB w (.bool (nameB s))) := by
  unfold maxLen at hs
  by_cases h0 : s.size = 0
  · go_enter Try.func80,Try.ntmps80
    go_wp2
    go_ret
    exact ⟨ret_bool (nameB_empty h0).symm,Below.refl _ _⟩
  · have hpos : 0 < s.size := by omega
    have hl := len_ne h0
    by_cases h32 : 32 < s.size
    · go_enter Try.func80,Try.ntmps80
      go_wp2
      go_ret
      exact ⟨ret_bool (nameB_long h32).symm,Below.refl _ _⟩
    · go_enter Try.func80,Try.ntmps80
      go_wp2
      go_loop [2,3] (fun r i => nameRel s r i) (fun _ i => s.size - (intOf i).toNat)
      case atStart => exact ⟨0,Nat.zero_le _,rfl,rfl,okTo_zero s,fun h => absurd h (by omega)⟩
      case round =>
        obtain ⟨k,hk,rfl,rfl,hall,hfirst⟩ := hrel
        have HA := hid hall
        have HF := hid hfirst
        clear hall hfirst
        by_cases hlt : k < s.size
        · have HG := hid (getB s hlt)
          rcases classes ((s[k]'hlt).toNat : Int) (by omega) with ⟨c1,c2,c3,d1,d2,d3⟩ | ⟨c1,c2,c3,d1,d2,d3⟩ | ⟨c1,c2,c3,d1,d2,d3⟩ | ⟨c1,c2,c3,d1,d2,d3⟩ | ⟨c1,c2,c3,d1,d2,d3⟩ | ⟨c1,c2,c3,d1,d2,d3⟩ | ⟨c1,c2,c3,d1,d2,d3⟩ | ⟨c1,c2,c3,d1,d2,d3⟩ | ⟨c1,c2,c3,d1,d2,d3⟩
          all_goals
            have C3 := hid c3
            rcases Nat.eq_zero_or_pos k with rfl | hkp
          all_goals
            try have hk0 : ((k : Int) == 0) = false := by rw [beq_eq_false_iff_ne]; omega
            go_wp2
            all_goals
             first
              | (go_ret
                 exact ⟨ret_bool (first_bad hlt HG.out (.inl ⟨rfl,small_not (by omega)⟩)).symm,Below.refl _ _⟩)
              | (go_ret
                 exact ⟨ret_bool (first_bad hlt HG.out (.inr (okb_not (by omega) (by omega) (by omega) (beq_eq_false_iff_ne.1 C3.out)))).symm,Below.refl _ _⟩)
              | (go_round
                 case rel => exact ⟨_,by omega,by go_num,rfl,okTo_succ HA.out (by rw [HG.out]; first | exact okb_of (by omega) | exact okb_of (.inr (.inr (.inr (beq_iff_eq.1 C3.out))))),fun _ => by first | exact HF.out (by omega) | (rw [HG.out]; exact small_of (by omega) (by omega))⟩
                 case measure => simp [intOf]; omega)
        · go_wp2
          go_ret
          obtain rfl : k = s.size := by omega
          exact ⟨ret_bool (nameB_true hpos (by omega) (HF.out hpos) HA.out).symm,Below.refl _ _⟩
def Strs (W : World) (v : Value) (l : List ByteArray) : Prop :=
 ∃ a c,v = .slice a l.length c ∧ l.length ≤ 9223372036854775807 ∧ (0 < l.length → ∃ b off,a = some ⟨b,off,none⟩ ∧ ∀ j,(h : j < l.length) → W.cell? ⟨b,off + j,none⟩ = some (.string l[j]))
theorem Strs.nil (W : World) : Strs W (.slice none 0 0) [] := ⟨none,0,rfl,by simp,fun h => absurd h (by simp)⟩
theorem Strs.same {W W' : World} {v : Value} {l : List ByteArray} (h : Strs W v l) (hs : ∀ b,v.ownBlock = some b → b < W.heap.size → W'.heap[b]? = W.heap[b]?) : Strs W' v l := by
 obtain ⟨a,c,rfl,hm,hc⟩ := h
 refine ⟨a,c,rfl,hm,fun hp => ?_⟩
 obtain ⟨b,off,rfl,hcell⟩ := hc hp
 refine ⟨b,off,rfl,fun j hj => ?_⟩
 rw [← hcell j hj]
 exact World.cell?_of_block (w := W) (hs b rfl (cell_lt (hcell j hj)))
theorem Strs.below {W W' : World} {v : Value} {l : List ByteArray} (h : Strs W v l) (hb : Below W.heap.size W W') : Strs W' v l :=
 h.same fun b _ hlt => hb.block b hlt
theorem Strs.alloc {W : World} {v : Value} {l : List ByteArray} (h : Strs W v l) (o : Obj) : Strs (W.alloc o) v l := h.below ((Below.refl _ _).alloc (Nat.le_refl _) o)
theorem Strs.src {W : World} {v : Value} {l : List ByteArray} (h : Strs W v l) : Src Try.prog 1 78 v l.length (l.map .string) W := by
 obtain ⟨a,c,rfl,hm,hc⟩ := h
 by_cases h0 : 0 < l.length
 ·obtain ⟨b,off,rfl,hcell⟩ := hc h0
  refine Src.ofSlice _ Try.underlying78 _ _ _ _ (by simp) (fun j u hj => ?_) (by simp [Value.oneCell'])
  obtain ⟨hjl,rfl⟩ := List.getElem?_eq_some_iff.1 hj
  simp only [List.getElem_map]
  have := hcell j (by simpa using hjl)
  simpa [Addr.add_lit] using this
 ·have : l = [] := List.eq_nil_of_length_eq_zero (by omega)
  subst this
  cases a with
  | none => exact Src.ofNil _ Try.underlying78 _
  | some a => exact Src.ofSlice _ Try.underlying78 _ _ _ _ (by simp) (fun j u hj => by simp at hj) (by simp)
theorem Strs.of_owns {W : World} {base : Nat} {v : Value} {n : Nat} {l : List ByteArray} (h : W.ownsRow base 9 1 v n (l.map .string)) (hm : l.length ≤ 9223372036854775807) : Strs W v l := by
 have hn : l.length = n := by have := h.1; simpa using this
 subst hn
 rcases h.2 with ⟨rfl,h0⟩ | ⟨g,cap,cur,rfl,_,hg,hnc,_,hcs,htake⟩
 ·exact ⟨none,0,by rw [h0],hm,fun hp => by omega⟩
 ·refine ⟨_,cap,rfl,hm,fun _ => ⟨g,0,rfl,fun j hj => ?_⟩⟩
  have := h.cells (g := g) rfl j (.string l[j]) (by simp [hj])
  simpa [Addr.add_lit] using this
def notTo (l : List ByteArray) (s : ByteArray) (k : Nat) : Prop := ∀ j,(h : j < l.length) → j < k → ¬ l[j] = s
theorem pos_of_first : ∀ {l : List ByteArray} {s : ByteArray} {k : Nat} (hk : k < l.length),notTo l s k → l[k] = s → pos l s = some k
 | [],_,k,hk,_,_ => by simp at hk
 | x :: l,s,0,_,_,h => by simp at h; simp [pos,h]
 | x :: l,s,k + 1,hk,hn,h => by
  have hx : ¬ x = s := hn 0 (by simp) (by omega)
  unfold pos
  rw [if_neg hx,pos_of_first (k := k) (by simpa using hk) (fun j hj hjk => hn (j + 1) (by simpa using hj) (by omega)) (by simpa using h)]
  rfl
theorem pos_of_none {l : List ByteArray} {s : ByteArray} (h : notTo l s l.length) : pos l s = none := by
 rw [pos_none_iff]
 intro hm
 obtain ⟨j,hj,e⟩ := List.getElem_of_mem hm
 exact h j hj hj e
theorem beq_bytes_true {a b : ByteArray} (h : a = b) : (a.toList == b.toList) = true := by subst h; simp
theorem beq_bytes_false {a b : ByteArray} (h : ¬ a = b) : (a.toList == b.toList) = false := by
 rw [Lib.toList_data,Lib.toList_data,beq_eq_false_iff_ne]
 intro e
 apply h
 cases a; cases b
 congr 1
 exact Array.toList_inj.1 e
def findRel (l : List ByteArray) (s : ByteArray) (r i : Value) : Prop := ∃ k : Nat,k ≤ l.length ∧ i = .int .i64 k ∧ r = .int .i64 0 ∧ notTo l s k
set_option maxHeartbeats 1000000 in
theorem find_any (v : Value) (l : List ByteArray) (s : ByteArray) (w : World) (hv : Strs w v l) :
  Calls Try.prog 81 #[v,.string s] w (RW w (.int .i64 ((pos l s).getD l.length : Nat))) := by
 obtain ⟨a,c,rfl,hm,hc⟩ := hv
 have HM := hid hc
 clear hc
 go_enter Try.func81,Try.ntmps81
 go_wp2
 go_loop [4,5] (fun r i => findRel l s r i) (fun _ i => l.length - (intOf i).toNat)
 case atStart => exact ⟨0,Nat.zero_le _,rfl,rfl,fun j _ h => by omega⟩
 case round =>
  obtain ⟨k,hk,rfl,rfl,hn⟩ := hrel
  have HN := hid hn
  clear hn
  by_cases hlt : k < l.length
  ·obtain ⟨b,off,rfl,hcell⟩ := HM.out (by omega)
   have hck := hcell k hlt
   clear hcell
   by_cases he : l[k] = s
   ·have hb := beq_bytes_true he
    have HE := hid he
    clear he
    go_wp2
    go_ret
    exact ⟨ret_int (by rw [pos_of_first hlt HN.out HE.out]; rfl),rfl⟩
   ·have hb := beq_bytes_false he
    have HE := hid he
    clear he
    go_wp2
    go_round
    case rel => exact ⟨k + 1,by omega,by go_num,rfl,fun j hj hjk => by
     by_cases e : j = k
     ·subst e; exact HE.out
     ·exact HN.out j hj (by omega)⟩
    case measure => simp [intOf]; omega
  ·go_wp2
   go_ret
   obtain rfl : k = l.length := by omega
   exact ⟨ret_int (by rw [pos_of_none HN.out]; rfl),rfl⟩
end Go.Proofs.Ytgadkiljnebicaa
namespace Go.Proofs.Ytgadkiljnebicaa
open Go.Lib (hid)
open Go.RowKit
theorem infoString : (Try.prog.info? 9).map (fun i => (i.zero,i.size,i.bytes)) = some (some (.string ByteArray.empty),1,16) := by kernel_rfl
def putL (l : List ByteArray) (s : ByteArray) : List ByteArray × Nat × Int :=
 if nameB s = false then (l,0,30) else
 match pos l s with
 | some i => (l,i,0)
 | none => if l.length = 4096 then (l,0,31) else (l ++ [s],l.length,0)
end Go.Proofs.Ytgadkiljnebicaa
namespace Go.Proofs.Ytgadkiljnebicaa
open Go.Lib (hid)
open Go.RowKit Go.Maps
set_option maxRecDepth 100000
theorem lawS : Keyed Try.prog 9 := string_keyed Try.underlying9
theorem zeroI (w : World) : (zeroValue 3).run Try.prog w = .ok (.int .i64 0) w := by kernel_rfl
abbrev mapAt (W : World) (m n : Nat) (l : List ByteArray) : Prop := W.ownsMap Try.prog 9 (plainElem (H := Unit) Try.prog 3) m n (mapOf l)
structure Tab (W : World) (p m : Nat) (v : Value) (l : List ByteArray) : Prop where
 obj : W.heap[p]? = some (.cells #[.map (some m),v] 97)
 map : mapAt W m l.length l
 row : W.ownsRow 0 9 1 v l.length (l.map .string)
 nd : l.Nodup
 len : l.length ≤ 4096
 nm : ∀ s ∈ l,nameB s = true
def tabIn (p m : Nat) (v : Value) (i : Nat) : Prop := i = p ∨ i = m ∨ v.ownBlock = some i
theorem row_same {w w' : World} {base e size : Nat} {v : Value} {n : Nat} {xs : List Value} (h : w.ownsRow base e size v n xs) (hs : ∀ b,v.ownBlock = some b → b < w.heap.size → w'.heap[b]? = w.heap[b]?) : w'.ownsRow base e size v n xs := by
 refine ⟨h.1,?_⟩
 rcases h.2 with h2 | ⟨g,cap,cur,rfl,hb,hg,r⟩
 ·exact .inl h2
 ·exact .inr ⟨g,cap,cur,rfl,hb,by rw [hs g rfl (Array.getElem?_eq_some_iff.1 hg).1]; exact hg,r⟩
theorem map_same {w w' : World} {P : Program} {k : TypeId} {R : Value → Option (DataW Unit × List MemPlace)} {b n : Nat} {D : DataW Unit} (h : w.ownsMap P k R b n D) (hs : w'.heap[b]? = w.heap[b]?) : w'.ownsMap P k R b n D := by
 obtain ⟨es,clock,hb,F,hs',hD⟩ := h
 exact ⟨es,clock,hs.trans hb,F,hs',hD⟩
theorem Tab.lt {W : World} {p m : Nat} {v : Value} {l : List ByteArray} (h : Tab W p m v l) : p < W.heap.size ∧ m < W.heap.size ∧ ∀ b,v.ownBlock = some b → b < W.heap.size := by
 refine ⟨(Array.getElem?_eq_some_iff.1 h.obj).1,h.map.lt,fun b e => ?_⟩
 rcases h.row.2 with ⟨rfl,_⟩ | ⟨g,cap,cur,rfl,hb,hg,r⟩
 ·cases e
 ·cases e; exact (Array.getElem?_eq_some_iff.1 hg).1
theorem Tab.same {W W' : World} {p m : Nat} {v : Value} {l : List ByteArray} (h : Tab W p m v l) (hs : ∀ i,tabIn p m v i → i < W.heap.size → W'.heap[i]? = W.heap[i]?) : Tab W' p m v l :=
 ⟨(hs p (.inl rfl) h.lt.1).trans h.obj,map_same h.map (hs m (.inr (.inl rfl)) h.lt.2.1),row_same h.row (fun b e hb => hs b (.inr (.inr e)) hb),h.nd,h.len,h.nm⟩
theorem Tab.below {W W' : World} {p m : Nat} {v : Value} {l : List ByteArray} (h : Tab W p m v l) (hb : Below W.heap.size W W') : Tab W' p m v l := h.same fun i _ hi => hb.block i hi
theorem Tab.apart {W : World} {p m : Nat} {v : Value} {l : List ByteArray} (h : Tab W p m v l) : p ≠ m ∧ v.ownBlock ≠ some p ∧ v.ownBlock ≠ some m := by
 have hm : ∃ es clock,W.heap[m]? = some (.map es clock) := by obtain ⟨es,clock,hb,_⟩ := h.map; exact ⟨es,clock,hb⟩
 obtain ⟨es,clock,hm⟩ := hm
 refine ⟨fun e => ?_,fun e => ?_,fun e => ?_⟩
 ·subst e; rw [h.obj] at hm; cases hm
 ·rcases h.row.2 with ⟨rfl,_⟩ | ⟨g,cap,cur,rfl,hb,hg,r⟩
  ·cases e
  ·cases e; rw [h.obj] at hg; cases hg
 ·rcases h.row.2 with ⟨rfl,_⟩ | ⟨g,cap,cur,rfl,hb,hg,r⟩
  ·cases e
  ·cases e; rw [hm] at hg; cases hg
theorem row_slice {w : World} {base e size : Nat} {v : Value} {n : Nat} {xs : List Value} (h : w.ownsRow base e size v n xs) : ∃ a c,v = .slice a n c := by
 rcases h.2 with ⟨rfl,rfl⟩ | ⟨g,cap,cur,rfl,_⟩
 ·exact ⟨_,_,rfl⟩
 ·exact ⟨_,_,rfl⟩
theorem Tab.cells {W : World} {p m : Nat} {v : Value} {l : List ByteArray} (h : Tab W p m v l) :
  W.cell? ⟨p,0,none⟩ = some (.map (some m)) ∧ W.cell? ⟨p,1,none⟩ = some v ∧ W.frozen? ⟨p,0,none⟩ = false ∧ W.frozen? ⟨p,1,none⟩ = false := by
 refine ⟨?_,?_,?_,?_⟩ <;> simp [World.cell?,World.frozen?,h.obj]
theorem Tab.strs {W : World} {p m : Nat} {v : Value} {l : List ByteArray} (h : Tab W p m v l) : Strs W v l := .of_owns h.row (by have := h.len; omega)
def NewPost (W : World) (e : Ending) (w' : World) : Prop := e = .returned (.pointer (some ⟨W.heap.size + 1,0,none⟩)) ∧ Tab w' (W.heap.size + 1) W.heap.size (.slice none 0 0) [] ∧ Below W.heap.size W w'
set_option maxHeartbeats 400000 in
theorem new_any (w : World) : Calls Try.prog 22 #[] w (NewPost w) := by
 have hmm := @run_makeMap Try.prog
 go_enter Try.func22,Try.ntmps22
 go_wp2
 go_ret
 refine ⟨rfl,⟨?_,?_,World.ownsRow_nil _ _ _ _,List.nodup_nil,by simp,by simp⟩,((Below.refl _ w).alloc (Nat.le_refl _) _).alloc (by simp) _⟩
 ·have := heap_new (w.alloc (.map #[] 0)) (.cells #[.map (some w.heap.size),.slice none 0 0] 97)
  rw [World.size_alloc] at this
  exact this
 ·exact (World.ownsMap_made w _ _ _).alloc _
set_option maxHeartbeats 400000 in
theorem len_any (p m : Nat) (v : Value) (l : List ByteArray) (w : World) (h : Tab w p m v l) :
  Calls Try.prog 57 #[.pointer (some ⟨p,0,none⟩)] w (RW w (.int .i64 l.length)) := by
 obtain ⟨c0,c1,f0,f1⟩ := h.cells
 obtain ⟨a,c,rfl⟩ := row_slice h.row
 clear h
 go_enter Try.func57,Try.ntmps57
 go_wp2
 go_ret
 exact ⟨rfl,rfl⟩
def findV (l : List ByteArray) (s : ByteArray) : Value := .tuple #[.int .i64 ((pos l s).getD 0 : Nat),.bool (pos l s).isSome]
set_option maxHeartbeats 400000 in
theorem tfind_any (p m : Nat) (v : Value) (l : List ByteArray) (s : ByteArray) (w : World) (h : Tab w p m v l) (hs : s.size ≤ maxLen) :
  Calls Try.prog 62 #[.pointer (some ⟨p,0,none⟩),.string s] w (RW w (findV l s)) := by
 obtain ⟨c0,c1,f0,f1⟩ := h.cells
 have HM := hid h.map
 have HK : Hid (keyOf Try.prog 9 (.string s) = some (key s)) := Go.WideMaps.keyOf_string_mk Try.underlying9 hs
 have HA := hid (at_mapOf h.nd s)
 have HH := hid (has_mapOf l s)
 clear h
 go_enter Try.func62,Try.ntmps62
 go_wp2_with (at_lookup; refine wpList_lookup_own_ok_int _ rfl _ _ 95 rfl 9 3 .i64 lawS Try.underlying95 Try.underlying3 (zeroI _) m _ _ rfl HM.out _ _ rfl HK.out ?_; intro cc hat hwc; have HC := hid hat; clear hat hwc)
 go_ret2
 refine ⟨?_,rfl⟩
 have e1 := HA.out.symm.trans HC.out
 simp only [num,DataW.lit.injEq,Lit.int.injEq,true_and] at e1
 rw [HH.out,← e1]
 rfl
end Go.Proofs.Ytgadkiljnebicaa
