/- Several texts in one. -/
import Derived.Test.YtgadkiljnebicaaD14
import Derived.Test.YtgadkiljnebicaaD13
import Derived.Test.YtgadkiljnebicaaD06
namespace Go.Proofs.Ytgadkiljnebicaa
open Go.Lib (hid)
open Go.RowKit
set_option maxRecDepth 100000
mutual
def flatT : Tm → List (Hd × Nat)
 | .mk h l => (h,l.length) :: flatTs l
def flatTs : List Tm → List (Hd × Nat)
 | [] => []
 | t :: l => flatT t ++ flatTs l
end
theorem flatTs_app : ∀ (a b : List Tm),flatTs (a ++ b) = flatTs a ++ flatTs b
 | [],b => by simp [flatTs]
 | t :: a,b => by simp only [List.cons_append,flatTs,flatTs_app a b,List.append_assoc]
theorem flatTs_take {l : List Tm} {i : Nat} (h : i < l.length) : flatTs (l.take (i + 1)) = flatTs (l.take i) ++ flatT l[i] := by
 rw [List.take_succ_eq_append_getElem h,flatTs_app]
 simp [flatTs]
theorem flatTs_le {l : List Tm} (i : Nat) : (flatTs (l.take i)).length ≤ (flatTs l).length := by
 have := congrArg List.length (flatTs_app (l.take i) (l.drop i))
 rw [List.take_append_drop,List.length_append] at this
 omega
theorem flatT_pos : ∀ (t : Tm),0 < (flatT t).length
 | .mk h l => by simp [flatT]
theorem flatTs_many : ∀ (l : List Tm),l.length ≤ (flatTs l).length
 | [] => by simp
 | t :: l => by have := flatT_pos t; have := flatTs_many l; simp only [flatTs,List.length_append,List.length_cons]; omega
mutual
theorem flatT_le : ∀ (t : Tm),(flatT t).length ≤ sizeT t
 | .mk h l => by have := flatTs_le2 l; simp only [flatT,sizeT,List.length_cons]; omega
theorem flatTs_le2 : ∀ (l : List Tm),(flatTs l).length ≤ sizeTs l
 | [] => by simp [flatTs,sizeTs]
 | t :: l => by have := flatT_le t; have := flatTs_le2 l; simp only [flatTs,sizeTs,List.length_append]; omega
end
def PartOk (w : World) (F : Nat → Prop) (x : Hd × Nat) (c : Array Value) : Prop := ∃ bv a n,c = hdC x.1 bv (.slice a x.2 n) ∧ Row w F 5 1 bv x.1.b.length (x.1.b.map cellB)
def PartsOk (w : World) (F : Nat → Prop) : List (Hd × Nat) → List (Array Value) → Prop
 | [],ps => ps = []
 | x :: l,ps => ∃ c r,ps = c :: r ∧ PartOk w F x c ∧ PartsOk w F l r
theorem PartsOk.app {w : World} {F : Nat → Prop} : ∀ {a b : List (Hd × Nat)} {p q : List (Array Value)},PartsOk w F a p → PartsOk w F b q → PartsOk w F (a ++ b) (p ++ q)
 | [],_,_,_,h,k => by
  have e : _ = [] := h
  subst e
  exact k
 | _ :: _,_,_,_,⟨c,r,e,h1,h2⟩,k => by
  subst e
  exact ⟨c,_,rfl,h1,h2.app k⟩
theorem PartsOk.keep {w w' : World} {F : Nat → Prop} (hs : ∀ b,F b → b < w.heap.size → w'.heap[b]? = w.heap[b]?) : ∀ {a : List (Hd × Nat)} {p : List (Array Value)},PartsOk w F a p → PartsOk w' F a p
 | [],_,h => h
 | _ :: _,_,⟨c,r,e,⟨bv,a,n,e2,h1⟩,h2⟩ => ⟨c,r,e,⟨bv,a,n,e2,h1.keep hs⟩,h2.keep hs⟩
theorem PartsOk.len {w : World} {F : Nat → Prop} : ∀ {a : List (Hd × Nat)} {p : List (Array Value)},PartsOk w F a p → p.length = a.length
 | [],_,h => by
  have e : _ = [] := h
  subst e
  rfl
 | _ :: _,_,⟨c,r,e,_,h2⟩ => by
  subst e
  simp [h2.len]
theorem PartsOk.at {w : World} {F : Nat → Prop} : ∀ {a : List (Hd × Nat)} {p : List (Array Value)},PartsOk w F a p → ∀ (i : Nat) (h : i < a.length) (h' : i < p.length),PartOk w F a[i] p[i]
 | [],_,_,i,h,_ => absurd h (by simp)
 | _ :: _,_,⟨_,_,e,h1,h2⟩,0,_,_ => by subst e; exact h1
 | _ :: l,_,⟨_,_,e,h1,h2⟩,i + 1,h,h' => by
  subst e
  exact h2.at i (by simpa using h) (by simpa using h')
theorem PartOk.nine {w : World} {F : Nat → Prop} {x : Hd × Nat} {c : Array Value} (h : PartOk w F x c) : c.size = 9 ∧ ∀ u ∈ c.toList,u.oneCell' = true := by
 obtain ⟨bv,a,n,rfl,hr⟩ := h
 obtain ⟨a2,c2,rfl⟩ := row_slice hr.1
 exact ⟨rfl,nine_one _ _ _ _ _ _ _ _ _ _ _ _ _ _⟩
theorem PartsOk.one {w : World} {F : Nat → Prop} : ∀ {a : List (Hd × Nat)} {p : List (Array Value)},PartsOk w F a p → (∀ c ∈ p,c.size = 9) ∧ ∀ u ∈ cat p,u.oneCell' = true
 | [],_,h => by
  have e : _ = [] := h
  subst e
  exact ⟨by simp,by simp [cat]⟩
 | _ :: _,_,⟨c,r,e,h1,h2⟩ => by
  subst e
  obtain ⟨a1,a2⟩ := h1.nine
  obtain ⟨b1,b2⟩ := h2.one
  refine ⟨fun d hd => ?_,fun u hu => ?_⟩
  ·rcases List.mem_cons.1 hd with rfl | hd
   ·exact a1
   ·exact b1 d hd
  ·have e : cat (c :: r) = c.toList ++ cat r := by simp [cat]
   rw [e] at hu
   rcases List.mem_append.1 hu with hu | hu
   ·exact a2 u hu
   ·exact b2 u hu
theorem al2_fst {w5 : World} {o1 o2 : Array Value} {t1 t2 : TypeId} : ((w5.alloc (.cells o1 t1)).alloc (.cells o2 t2)).heap[w5.heap.size]? = some (.cells o1 t1 (0,0)) := (Below.heap_alloc _ _ _ (by simp)).trans (heap_new w5 _)
theorem cat_app (p q : List (Array Value)) : cat (p ++ q) = cat p ++ cat q := by simp [cat]
theorem cat_cons (c : Array Value) (q : List (Array Value)) : cat (c :: q) = c.toList ++ cat q := by simp [cat]
theorem src_owns {P : Program} {w : World} {base e tx e' size n : Nat} {v : Value} {xs : List Value} (hk : P.underlying tx = some (.slice e')) (h : w.ownsRow base e size v n xs) (h1 : ∀ u ∈ xs,u.oneCell' = true) : Src P size tx v n xs w := by
 have hl := h.1
 rcases h.2 with ⟨rfl,h0⟩ | ⟨g,cap,cur,rfl,_⟩
 ·subst h0
  have : xs = [] := List.eq_nil_of_length_eq_zero (by omega)
  subst this
  exact Src.ofNil _ hk 0
 ·exact Src.ofSlice _ hk _ _ _ _ hl (h.cells (g := g) rfl) h1
theorem owns_nine {w : World} {F : Nat → Prop} {base e : Nat} {v : Value} {xs : List (Hd × Nat)} {ps : List (Array Value)} (h : w.ownsRow base e 9 v xs.length (cat ps)) (hp : PartsOk w F xs ps) {i : Nat} (hi : i < xs.length) :
  ∃ g cap,v = .slice (some ⟨g,0,none⟩) xs.length cap ∧ base ≤ g ∧ g < w.heap.size ∧ ∃ bv a n,Row w F 5 1 bv xs[i].1.b.length (xs[i].1.b.map cellB) ∧ NineIn w g (i * 9) xs[i].1.kind xs[i].1.n xs[i].1.re xs[i].1.im xs[i].1.s xs[i].1.node xs[i].1.boot xs[i].1.idn bv (.slice a xs[i].2 n) := by
 have hvl := hp.len
 have hpt := hp.at i hi (by omega)
 rcases h.2 with ⟨_,h0⟩ | ⟨g,cap,cur,hv,hb,hh,_⟩
 ·omega
 subst hv
 refine ⟨g,cap,rfl,hb,(Array.getElem?_eq_some_iff.1 hh).1,?_⟩
 have c : ∀ j,j < 9 → w.cell? ⟨g,i * 9 + j,none⟩ = (ps[i]'(by omega))[j]? := fun j hj => by
  have hs := hp.one.1
  rw [← cat_get ps hs i j (by omega) hj]
  have hlen : (cat ps).length = xs.length * 9 := h.1
  have hlt : i * 9 + j < (cat ps).length := by omega
  have := h.cells (g := g) rfl (i * 9 + j) (cat ps)[i * 9 + j] (List.getElem?_eq_getElem hlt)
  rw [List.getElem?_eq_getElem hlt,← this]
  simp [Addr.add_lit]
 generalize ps[i]'(by omega) = cs at *
 generalize xs[i] = x at *
 obtain ⟨bv,a,n,rfl,hr⟩ := hpt
 exact ⟨bv,a,n,hr,c 0 (by omega),c 1 (by omega),c 2 (by omega),c 3 (by omega),c 4 (by omega),c 5 (by omega),c 6 (by omega),c 7 (by omega),c 8 (by omega)⟩
theorem tobits (n : Nat) (w : World) : (callFunc 84 #[.float .f64 n]).run Try.prog w = .ok (.value (.int .u64 (n : Int))) w := by
 rw [run_callFunc_extern Try.func84 (by kernel_rfl) (by kernel_rfl) (by kernel_rfl) (e := Extern.MathFloatBits.float64bits) (by kernel_rfl)]
 rfl
set_option maxHeartbeats 4000000 in
theorem wbits_any (B Wb p m : Nat) (v : Value) (a : Option Addr) (c : Nat) (out : List UInt8) (names : List ByteArray) (x : Nat) (_ : x < 18446744073709551616) (w : World) (h : WrAt B Wb p m v a c out names w) (hlen : out.length + 10 ≤ 1000000000) :
  Calls Try.prog 56 #[.pointer (some ⟨Wb,0,none⟩),.float .f64 x] w (WrPost B Wb p m v a c out w (out ++ bitsB x) names) := by
 have H := hid h
 have HLn := hid hlen
 have hf := tobits x
 obtain ⟨i0,hi,hz0,hz1,hz2⟩ := info_parts infoU8
 have X1 := hid hi
 have X2 := hid hz0
 have X3 := hid hz1
 have X4 := hid hz2
 clear h hi hz0 hz1 hz2 hlen
 go_enter Try.func56,Try.ntmps56
 go_wp2_with fail
 clear hf
 go_loopw [5] (fun t5 wr => ∃ (j : Nat) (v' : Value) (a' : Option Addr) (c' : Nat),j ≤ 8 ∧ t5 = .int .i64 (56 - 8 * (j : Int)) ∧ WrStep B Wb p m v a c out w v' a' c' (out ++ (bitsB x).take j) names wr) (fun t5 _ => (intOf t5 + 8).toNat)
 case atStart => exact ⟨0,v,a,c,Nat.zero_le _,rfl,by simpa using H.out.stay (Below.refl _ _)⟩
 case round =>
  obtain ⟨j,v2,a2,c2,hj,rfl,hS⟩ := hrel
  have HS := hid hS
  clear hS
  have wc0 := HS.out.wr.c0
  have wf0 := HS.out.wr.fz 0
  have hwl := HS.out.wr.wl
  by_cases hlt : j < 8
  ·rcases (show j = 0 ∨ j = 1 ∨ j = 2 ∨ j = 3 ∨ j = 4 ∨ j = 5 ∨ j = 6 ∨ j = 7 by omega) with rfl | rfl | rfl | rfl | rfl | rfl | rfl | rfl
   ·have hv : IntKind.u8.wrap ((x : Int) / 72057594037927936) = (((x / 2 ^ 56) % 256 : Nat) : Int) := by rw [IntKind.wrap_u8]; omega
    have hy : (x / 2 ^ 56) % 256 < 256 := Nat.mod_lt _ (by decide)
    have HCb := hid (show [UInt8.ofNat (x / 2 ^ 56)].map cellB = [.int .u8 (((x / 2 ^ 56) % 256 : Nat) : Int)] by show [Value.int .u8 _] = _; rw [ofNat_toNat])
    generalize (x / 2 ^ 56) % 256 = y at *
    have hol : (out ++ (bitsB x).take 0).length = out.length + 0 := by rw [List.length_append]; rfl
    have HM1 := hid (show (out ++ (bitsB x).take 0).length + 1 ≤ maxLen by rw [hol]; have := HLn.out; unfold maxLen; omega)
    have HM2 := hid (show ((out ++ (bitsB x).take 0).length + 1) * 1 ≤ 140737488355328 by rw [hol]; have := HLn.out; omega)
    have HTk := hid (show (out ++ (bitsB x).take 0) ++ [UInt8.ofNat (x / 2 ^ 56)] = out ++ (bitsB x).take 1 by rw [List.append_assoc]; rfl)
    clear hol
    generalize out ++ (bitsB x).take 0 = o2 at *
    have HM3 : Hid (B ≤ (wr.drew.alloc (.cells #[.int .u8 (y : Int)] 5)).heap.size) := hid (by have := HS.out.wr.bl; simp; omega)
    go_wp2_with fail
    go_region_law (first
     | (refine step_app (by rfl) (.tmp 16) (.tmp 21) 22 22 (by rfl) B 5 i0 (.int .u8 0) 1 1 Try.underlying22 X1.out X2.out X3.out X4.out rfl (by decide) (.slice a2 o2.length c2) o2.length (o2.map cellB) (by rfl) (HS.out.wr.row.drew.alloc _) (.slice (some ⟨wr.heap.size,0,none⟩) 1 1) 1 [.int .u8 (y : Int)] (by rfl) (src_one wr.drew Try.underlying22 _ _ rfl) HM1.out HM2.out HM3.out ?_; intro a4 c4 wz ho4 hg4 hl4; have HA := hid (HS.out.wr.app (W0 := wr.drew.alloc (.cells #[.int .u8 (y : Int)] 5)) ((Below.refl _ wr).drew.alloc (Nat.le_refl _) _) (news := [UInt8.ofNat (x / 2 ^ 56)]) (k := 1) rfl hg4 (by rw [HCb.out]; exact ho4) hl4); have hK := HS.out.wr.kept (W0 := wr.drew.alloc (.cells #[.int .u8 (y : Int)] 5)) ((Below.refl _ wr).drew.alloc (Nat.le_refl _) _) hg4; obtain ⟨y4,z4⟩ := hK; clear ho4 hg4 hl4))
    all_goals
     clear y4 z4 wc0 wf0 hwl hv
     go_wp2_with fail
     go_round
     case rel => exact ⟨1,v2,a4,c4,by omega,by first | rfl | go_num | simp,by rw [← HTk.out]; exact HS.out.trans HA.out⟩
     case measure => simp [intOf]
   ·have hv : IntKind.u8.wrap ((x : Int) / 281474976710656) = (((x / 2 ^ 48) % 256 : Nat) : Int) := by rw [IntKind.wrap_u8]; omega
    have hy : (x / 2 ^ 48) % 256 < 256 := Nat.mod_lt _ (by decide)
    have HCb := hid (show [UInt8.ofNat (x / 2 ^ 48)].map cellB = [.int .u8 (((x / 2 ^ 48) % 256 : Nat) : Int)] by show [Value.int .u8 _] = _; rw [ofNat_toNat])
    generalize (x / 2 ^ 48) % 256 = y at *
    have hol : (out ++ (bitsB x).take 1).length = out.length + 1 := by rw [List.length_append]; rfl
    have HM1 := hid (show (out ++ (bitsB x).take 1).length + 1 ≤ maxLen by rw [hol]; have := HLn.out; unfold maxLen; omega)
    have HM2 := hid (show ((out ++ (bitsB x).take 1).length + 1) * 1 ≤ 140737488355328 by rw [hol]; have := HLn.out; omega)
    have HTk := hid (show (out ++ (bitsB x).take 1) ++ [UInt8.ofNat (x / 2 ^ 48)] = out ++ (bitsB x).take 2 by rw [List.append_assoc]; rfl)
    clear hol
    generalize out ++ (bitsB x).take 1 = o2 at *
    have HM3 : Hid (B ≤ (wr.drew.alloc (.cells #[.int .u8 (y : Int)] 5)).heap.size) := hid (by have := HS.out.wr.bl; simp; omega)
    go_wp2_with fail
    go_region_law (first
     | (refine step_app (by rfl) (.tmp 16) (.tmp 21) 22 22 (by rfl) B 5 i0 (.int .u8 0) 1 1 Try.underlying22 X1.out X2.out X3.out X4.out rfl (by decide) (.slice a2 o2.length c2) o2.length (o2.map cellB) (by rfl) (HS.out.wr.row.drew.alloc _) (.slice (some ⟨wr.heap.size,0,none⟩) 1 1) 1 [.int .u8 (y : Int)] (by rfl) (src_one wr.drew Try.underlying22 _ _ rfl) HM1.out HM2.out HM3.out ?_; intro a4 c4 wz ho4 hg4 hl4; have HA := hid (HS.out.wr.app (W0 := wr.drew.alloc (.cells #[.int .u8 (y : Int)] 5)) ((Below.refl _ wr).drew.alloc (Nat.le_refl _) _) (news := [UInt8.ofNat (x / 2 ^ 48)]) (k := 1) rfl hg4 (by rw [HCb.out]; exact ho4) hl4); have hK := HS.out.wr.kept (W0 := wr.drew.alloc (.cells #[.int .u8 (y : Int)] 5)) ((Below.refl _ wr).drew.alloc (Nat.le_refl _) _) hg4; obtain ⟨y4,z4⟩ := hK; clear ho4 hg4 hl4))
    all_goals
     clear y4 z4 wc0 wf0 hwl hv
     go_wp2_with fail
     go_round
     case rel => exact ⟨2,v2,a4,c4,by omega,by first | rfl | go_num | simp,by rw [← HTk.out]; exact HS.out.trans HA.out⟩
     case measure => simp [intOf]
   ·have hv : IntKind.u8.wrap ((x : Int) / 1099511627776) = (((x / 2 ^ 40) % 256 : Nat) : Int) := by rw [IntKind.wrap_u8]; omega
    have hy : (x / 2 ^ 40) % 256 < 256 := Nat.mod_lt _ (by decide)
    have HCb := hid (show [UInt8.ofNat (x / 2 ^ 40)].map cellB = [.int .u8 (((x / 2 ^ 40) % 256 : Nat) : Int)] by show [Value.int .u8 _] = _; rw [ofNat_toNat])
    generalize (x / 2 ^ 40) % 256 = y at *
    have hol : (out ++ (bitsB x).take 2).length = out.length + 2 := by rw [List.length_append]; rfl
    have HM1 := hid (show (out ++ (bitsB x).take 2).length + 1 ≤ maxLen by rw [hol]; have := HLn.out; unfold maxLen; omega)
    have HM2 := hid (show ((out ++ (bitsB x).take 2).length + 1) * 1 ≤ 140737488355328 by rw [hol]; have := HLn.out; omega)
    have HTk := hid (show (out ++ (bitsB x).take 2) ++ [UInt8.ofNat (x / 2 ^ 40)] = out ++ (bitsB x).take 3 by rw [List.append_assoc]; rfl)
    clear hol
    generalize out ++ (bitsB x).take 2 = o2 at *
    have HM3 : Hid (B ≤ (wr.drew.alloc (.cells #[.int .u8 (y : Int)] 5)).heap.size) := hid (by have := HS.out.wr.bl; simp; omega)
    go_wp2_with fail
    go_region_law (first
     | (refine step_app (by rfl) (.tmp 16) (.tmp 21) 22 22 (by rfl) B 5 i0 (.int .u8 0) 1 1 Try.underlying22 X1.out X2.out X3.out X4.out rfl (by decide) (.slice a2 o2.length c2) o2.length (o2.map cellB) (by rfl) (HS.out.wr.row.drew.alloc _) (.slice (some ⟨wr.heap.size,0,none⟩) 1 1) 1 [.int .u8 (y : Int)] (by rfl) (src_one wr.drew Try.underlying22 _ _ rfl) HM1.out HM2.out HM3.out ?_; intro a4 c4 wz ho4 hg4 hl4; have HA := hid (HS.out.wr.app (W0 := wr.drew.alloc (.cells #[.int .u8 (y : Int)] 5)) ((Below.refl _ wr).drew.alloc (Nat.le_refl _) _) (news := [UInt8.ofNat (x / 2 ^ 40)]) (k := 1) rfl hg4 (by rw [HCb.out]; exact ho4) hl4); have hK := HS.out.wr.kept (W0 := wr.drew.alloc (.cells #[.int .u8 (y : Int)] 5)) ((Below.refl _ wr).drew.alloc (Nat.le_refl _) _) hg4; obtain ⟨y4,z4⟩ := hK; clear ho4 hg4 hl4))
    all_goals
     clear y4 z4 wc0 wf0 hwl hv
     go_wp2_with fail
     go_round
     case rel => exact ⟨3,v2,a4,c4,by omega,by first | rfl | go_num | simp,by rw [← HTk.out]; exact HS.out.trans HA.out⟩
     case measure => simp [intOf]
   ·have hv : IntKind.u8.wrap ((x : Int) / 4294967296) = (((x / 2 ^ 32) % 256 : Nat) : Int) := by rw [IntKind.wrap_u8]; omega
    have hy : (x / 2 ^ 32) % 256 < 256 := Nat.mod_lt _ (by decide)
    have HCb := hid (show [UInt8.ofNat (x / 2 ^ 32)].map cellB = [.int .u8 (((x / 2 ^ 32) % 256 : Nat) : Int)] by show [Value.int .u8 _] = _; rw [ofNat_toNat])
    generalize (x / 2 ^ 32) % 256 = y at *
    have hol : (out ++ (bitsB x).take 3).length = out.length + 3 := by rw [List.length_append]; rfl
    have HM1 := hid (show (out ++ (bitsB x).take 3).length + 1 ≤ maxLen by rw [hol]; have := HLn.out; unfold maxLen; omega)
    have HM2 := hid (show ((out ++ (bitsB x).take 3).length + 1) * 1 ≤ 140737488355328 by rw [hol]; have := HLn.out; omega)
    have HTk := hid (show (out ++ (bitsB x).take 3) ++ [UInt8.ofNat (x / 2 ^ 32)] = out ++ (bitsB x).take 4 by rw [List.append_assoc]; rfl)
    clear hol
    generalize out ++ (bitsB x).take 3 = o2 at *
    have HM3 : Hid (B ≤ (wr.drew.alloc (.cells #[.int .u8 (y : Int)] 5)).heap.size) := hid (by have := HS.out.wr.bl; simp; omega)
    go_wp2_with fail
    go_region_law (first
     | (refine step_app (by rfl) (.tmp 16) (.tmp 21) 22 22 (by rfl) B 5 i0 (.int .u8 0) 1 1 Try.underlying22 X1.out X2.out X3.out X4.out rfl (by decide) (.slice a2 o2.length c2) o2.length (o2.map cellB) (by rfl) (HS.out.wr.row.drew.alloc _) (.slice (some ⟨wr.heap.size,0,none⟩) 1 1) 1 [.int .u8 (y : Int)] (by rfl) (src_one wr.drew Try.underlying22 _ _ rfl) HM1.out HM2.out HM3.out ?_; intro a4 c4 wz ho4 hg4 hl4; have HA := hid (HS.out.wr.app (W0 := wr.drew.alloc (.cells #[.int .u8 (y : Int)] 5)) ((Below.refl _ wr).drew.alloc (Nat.le_refl _) _) (news := [UInt8.ofNat (x / 2 ^ 32)]) (k := 1) rfl hg4 (by rw [HCb.out]; exact ho4) hl4); have hK := HS.out.wr.kept (W0 := wr.drew.alloc (.cells #[.int .u8 (y : Int)] 5)) ((Below.refl _ wr).drew.alloc (Nat.le_refl _) _) hg4; obtain ⟨y4,z4⟩ := hK; clear ho4 hg4 hl4))
    all_goals
     clear y4 z4 wc0 wf0 hwl hv
     go_wp2_with fail
     go_round
     case rel => exact ⟨4,v2,a4,c4,by omega,by first | rfl | go_num | simp,by rw [← HTk.out]; exact HS.out.trans HA.out⟩
     case measure => simp [intOf]
   ·have hv : IntKind.u8.wrap ((x : Int) / 16777216) = (((x / 2 ^ 24) % 256 : Nat) : Int) := by rw [IntKind.wrap_u8]; omega
    have hy : (x / 2 ^ 24) % 256 < 256 := Nat.mod_lt _ (by decide)
    have HCb := hid (show [UInt8.ofNat (x / 2 ^ 24)].map cellB = [.int .u8 (((x / 2 ^ 24) % 256 : Nat) : Int)] by show [Value.int .u8 _] = _; rw [ofNat_toNat])
    generalize (x / 2 ^ 24) % 256 = y at *
    have hol : (out ++ (bitsB x).take 4).length = out.length + 4 := by rw [List.length_append]; rfl
    have HM1 := hid (show (out ++ (bitsB x).take 4).length + 1 ≤ maxLen by rw [hol]; have := HLn.out; unfold maxLen; omega)
    have HM2 := hid (show ((out ++ (bitsB x).take 4).length + 1) * 1 ≤ 140737488355328 by rw [hol]; have := HLn.out; omega)
    have HTk := hid (show (out ++ (bitsB x).take 4) ++ [UInt8.ofNat (x / 2 ^ 24)] = out ++ (bitsB x).take 5 by rw [List.append_assoc]; rfl)
    clear hol
    generalize out ++ (bitsB x).take 4 = o2 at *
    have HM3 : Hid (B ≤ (wr.drew.alloc (.cells #[.int .u8 (y : Int)] 5)).heap.size) := hid (by have := HS.out.wr.bl; simp; omega)
    go_wp2_with fail
    go_region_law (first
     | (refine step_app (by rfl) (.tmp 16) (.tmp 21) 22 22 (by rfl) B 5 i0 (.int .u8 0) 1 1 Try.underlying22 X1.out X2.out X3.out X4.out rfl (by decide) (.slice a2 o2.length c2) o2.length (o2.map cellB) (by rfl) (HS.out.wr.row.drew.alloc _) (.slice (some ⟨wr.heap.size,0,none⟩) 1 1) 1 [.int .u8 (y : Int)] (by rfl) (src_one wr.drew Try.underlying22 _ _ rfl) HM1.out HM2.out HM3.out ?_; intro a4 c4 wz ho4 hg4 hl4; have HA := hid (HS.out.wr.app (W0 := wr.drew.alloc (.cells #[.int .u8 (y : Int)] 5)) ((Below.refl _ wr).drew.alloc (Nat.le_refl _) _) (news := [UInt8.ofNat (x / 2 ^ 24)]) (k := 1) rfl hg4 (by rw [HCb.out]; exact ho4) hl4); have hK := HS.out.wr.kept (W0 := wr.drew.alloc (.cells #[.int .u8 (y : Int)] 5)) ((Below.refl _ wr).drew.alloc (Nat.le_refl _) _) hg4; obtain ⟨y4,z4⟩ := hK; clear ho4 hg4 hl4))
    all_goals
     clear y4 z4 wc0 wf0 hwl hv
     go_wp2_with fail
     go_round
     case rel => exact ⟨5,v2,a4,c4,by omega,by first | rfl | go_num | simp,by rw [← HTk.out]; exact HS.out.trans HA.out⟩
     case measure => simp [intOf]
   ·have hv : IntKind.u8.wrap ((x : Int) / 65536) = (((x / 2 ^ 16) % 256 : Nat) : Int) := by rw [IntKind.wrap_u8]; omega
    have hy : (x / 2 ^ 16) % 256 < 256 := Nat.mod_lt _ (by decide)
    have HCb := hid (show [UInt8.ofNat (x / 2 ^ 16)].map cellB = [.int .u8 (((x / 2 ^ 16) % 256 : Nat) : Int)] by show [Value.int .u8 _] = _; rw [ofNat_toNat])
    generalize (x / 2 ^ 16) % 256 = y at *
    have hol : (out ++ (bitsB x).take 5).length = out.length + 5 := by rw [List.length_append]; rfl
    have HM1 := hid (show (out ++ (bitsB x).take 5).length + 1 ≤ maxLen by rw [hol]; have := HLn.out; unfold maxLen; omega)
    have HM2 := hid (show ((out ++ (bitsB x).take 5).length + 1) * 1 ≤ 140737488355328 by rw [hol]; have := HLn.out; omega)
    have HTk := hid (show (out ++ (bitsB x).take 5) ++ [UInt8.ofNat (x / 2 ^ 16)] = out ++ (bitsB x).take 6 by rw [List.append_assoc]; rfl)
    clear hol
    generalize out ++ (bitsB x).take 5 = o2 at *
    have HM3 : Hid (B ≤ (wr.drew.alloc (.cells #[.int .u8 (y : Int)] 5)).heap.size) := hid (by have := HS.out.wr.bl; simp; omega)
    go_wp2_with fail
    go_region_law (first
     | (refine step_app (by rfl) (.tmp 16) (.tmp 21) 22 22 (by rfl) B 5 i0 (.int .u8 0) 1 1 Try.underlying22 X1.out X2.out X3.out X4.out rfl (by decide) (.slice a2 o2.length c2) o2.length (o2.map cellB) (by rfl) (HS.out.wr.row.drew.alloc _) (.slice (some ⟨wr.heap.size,0,none⟩) 1 1) 1 [.int .u8 (y : Int)] (by rfl) (src_one wr.drew Try.underlying22 _ _ rfl) HM1.out HM2.out HM3.out ?_; intro a4 c4 wz ho4 hg4 hl4; have HA := hid (HS.out.wr.app (W0 := wr.drew.alloc (.cells #[.int .u8 (y : Int)] 5)) ((Below.refl _ wr).drew.alloc (Nat.le_refl _) _) (news := [UInt8.ofNat (x / 2 ^ 16)]) (k := 1) rfl hg4 (by rw [HCb.out]; exact ho4) hl4); have hK := HS.out.wr.kept (W0 := wr.drew.alloc (.cells #[.int .u8 (y : Int)] 5)) ((Below.refl _ wr).drew.alloc (Nat.le_refl _) _) hg4; obtain ⟨y4,z4⟩ := hK; clear ho4 hg4 hl4))
    all_goals
     clear y4 z4 wc0 wf0 hwl hv
     go_wp2_with fail
     go_round
     case rel => exact ⟨6,v2,a4,c4,by omega,by first | rfl | go_num | simp,by rw [← HTk.out]; exact HS.out.trans HA.out⟩
     case measure => simp [intOf]
   ·have hv : IntKind.u8.wrap ((x : Int) / 256) = (((x / 2 ^ 8) % 256 : Nat) : Int) := by rw [IntKind.wrap_u8]; omega
    have hy : (x / 2 ^ 8) % 256 < 256 := Nat.mod_lt _ (by decide)
    have HCb := hid (show [UInt8.ofNat (x / 2 ^ 8)].map cellB = [.int .u8 (((x / 2 ^ 8) % 256 : Nat) : Int)] by show [Value.int .u8 _] = _; rw [ofNat_toNat])
    generalize (x / 2 ^ 8) % 256 = y at *
    have hol : (out ++ (bitsB x).take 6).length = out.length + 6 := by rw [List.length_append]; rfl
    have HM1 := hid (show (out ++ (bitsB x).take 6).length + 1 ≤ maxLen by rw [hol]; have := HLn.out; unfold maxLen; omega)
    have HM2 := hid (show ((out ++ (bitsB x).take 6).length + 1) * 1 ≤ 140737488355328 by rw [hol]; have := HLn.out; omega)
    have HTk := hid (show (out ++ (bitsB x).take 6) ++ [UInt8.ofNat (x / 2 ^ 8)] = out ++ (bitsB x).take 7 by rw [List.append_assoc]; rfl)
    clear hol
    generalize out ++ (bitsB x).take 6 = o2 at *
    have HM3 : Hid (B ≤ (wr.drew.alloc (.cells #[.int .u8 (y : Int)] 5)).heap.size) := hid (by have := HS.out.wr.bl; simp; omega)
    go_wp2_with fail
    go_region_law (first
     | (refine step_app (by rfl) (.tmp 16) (.tmp 21) 22 22 (by rfl) B 5 i0 (.int .u8 0) 1 1 Try.underlying22 X1.out X2.out X3.out X4.out rfl (by decide) (.slice a2 o2.length c2) o2.length (o2.map cellB) (by rfl) (HS.out.wr.row.drew.alloc _) (.slice (some ⟨wr.heap.size,0,none⟩) 1 1) 1 [.int .u8 (y : Int)] (by rfl) (src_one wr.drew Try.underlying22 _ _ rfl) HM1.out HM2.out HM3.out ?_; intro a4 c4 wz ho4 hg4 hl4; have HA := hid (HS.out.wr.app (W0 := wr.drew.alloc (.cells #[.int .u8 (y : Int)] 5)) ((Below.refl _ wr).drew.alloc (Nat.le_refl _) _) (news := [UInt8.ofNat (x / 2 ^ 8)]) (k := 1) rfl hg4 (by rw [HCb.out]; exact ho4) hl4); have hK := HS.out.wr.kept (W0 := wr.drew.alloc (.cells #[.int .u8 (y : Int)] 5)) ((Below.refl _ wr).drew.alloc (Nat.le_refl _) _) hg4; obtain ⟨y4,z4⟩ := hK; clear ho4 hg4 hl4))
    all_goals
     clear y4 z4 wc0 wf0 hwl hv
     go_wp2_with fail
     go_round
     case rel => exact ⟨7,v2,a4,c4,by omega,by first | rfl | go_num | simp,by rw [← HTk.out]; exact HS.out.trans HA.out⟩
     case measure => simp [intOf]
   ·have hv : IntKind.u8.wrap ((x : Int)) = (((x) % 256 : Nat) : Int) := by rw [IntKind.wrap_u8]; omega
    have hy : (x) % 256 < 256 := Nat.mod_lt _ (by decide)
    have HCb := hid (show [UInt8.ofNat (x)].map cellB = [.int .u8 (((x) % 256 : Nat) : Int)] by show [Value.int .u8 _] = _; rw [ofNat_toNat])
    generalize (x) % 256 = y at *
    have hol : (out ++ (bitsB x).take 7).length = out.length + 7 := by rw [List.length_append]; rfl
    have HM1 := hid (show (out ++ (bitsB x).take 7).length + 1 ≤ maxLen by rw [hol]; have := HLn.out; unfold maxLen; omega)
    have HM2 := hid (show ((out ++ (bitsB x).take 7).length + 1) * 1 ≤ 140737488355328 by rw [hol]; have := HLn.out; omega)
    have HTk := hid (show (out ++ (bitsB x).take 7) ++ [UInt8.ofNat (x)] = out ++ (bitsB x).take 8 by rw [List.append_assoc]; rfl)
    clear hol
    generalize out ++ (bitsB x).take 7 = o2 at *
    have HM3 : Hid (B ≤ (wr.drew.alloc (.cells #[.int .u8 (y : Int)] 5)).heap.size) := hid (by have := HS.out.wr.bl; simp; omega)
    go_wp2_with fail
    go_region_law (first
     | (refine step_app (by rfl) (.tmp 16) (.tmp 21) 22 22 (by rfl) B 5 i0 (.int .u8 0) 1 1 Try.underlying22 X1.out X2.out X3.out X4.out rfl (by decide) (.slice a2 o2.length c2) o2.length (o2.map cellB) (by rfl) (HS.out.wr.row.drew.alloc _) (.slice (some ⟨wr.heap.size,0,none⟩) 1 1) 1 [.int .u8 (y : Int)] (by rfl) (src_one wr.drew Try.underlying22 _ _ rfl) HM1.out HM2.out HM3.out ?_; intro a4 c4 wz ho4 hg4 hl4; have HA := hid (HS.out.wr.app (W0 := wr.drew.alloc (.cells #[.int .u8 (y : Int)] 5)) ((Below.refl _ wr).drew.alloc (Nat.le_refl _) _) (news := [UInt8.ofNat (x)]) (k := 1) rfl hg4 (by rw [HCb.out]; exact ho4) hl4); have hK := HS.out.wr.kept (W0 := wr.drew.alloc (.cells #[.int .u8 (y : Int)] 5)) ((Below.refl _ wr).drew.alloc (Nat.le_refl _) _) hg4; obtain ⟨y4,z4⟩ := hK; clear ho4 hg4 hl4))
    all_goals
     clear y4 z4 wc0 wf0 hwl hv
     go_wp2_with fail
     go_round
     case rel => exact ⟨8,v2,a4,c4,by omega,by first | rfl | go_num | simp,by rw [← HTk.out]; exact HS.out.trans HA.out⟩
     case measure => simp [intOf]
  ·obtain rfl : j = 8 := by omega
   go_wp2_with fail
   go_end0
   exact ⟨rfl,v2,a2,c2,HS.out⟩
end Go.Proofs.Ytgadkiljnebicaa
namespace Go.Proofs.Ytgadkiljnebicaa
open Go.Lib (hid)
open Go.RowKit
set_option maxRecDepth 100000
attribute [local go_sem] run_store_complex
set_option maxHeartbeats 2000000 in
theorem rp2 (R p m : Nat) (v bv : Value) (bs : List UInt8) (s s1 : St) (sub : Rd Tm) (d : Int) (hd : d ≤ 24) (w : World) (h : RdAt w R p m v bv bs s) (hn : s.n + 1 ≤ 4096) (ho : oneP bs { s with n := s.n + 1 } = .ok (2,s1)) :
  Calls Try.prog 25 #[.pointer (some ⟨R,0,none⟩),.int .i64 d] w (PartPost R p m v bv bs w (kindP bs sub 2 s1)) := by
 have H := hid h
 have HO := hid ho
 have HA := hid (h.below ((Below.refl _ w).alloc (Nat.le_refl _) (.cells #[.int .i64 0,.int .i64 0,.complex .f64 0 0,.string ⟨#[]⟩,.int .i64 0,.int .u32 0,.int .u64 0,nilV,nilV] 31)))
 have r2 := HA.out.c2
 have rf := HA.out.fz 2
 have hn' : (s.n : Int) + 1 ≤ 4096 := by omega
 clear h ho
 go_enter Try.func25,Try.ntmps25
 go_wp2_with fail
 have HR2 : Hid (RdAt ((w.alloc (.cells #[.int .i64 0,.int .i64 0,.complex .f64 0 0,.string ⟨#[]⟩,.int .i64 0,.int .u32 0,.int .u64 0,nilV,nilV] 31)).setCell ⟨R,2,none⟩ (.int .i64 ((s.n : Int) + 1))) R p m v bv bs { s with n := s.n + 1 }) := HA.out.store (by simp) rfl HA.out.ile (show s.n + 1 ≤ 4097 by omega)
 have HT2 := hid ((Turn.alloc (fun i => i = R) w (.cells #[.int .i64 0,.int .i64 0,.complex .f64 0 0,.string ⟨#[]⟩,.int .i64 0,.int .u32 0,.int .u64 0,nilV,nilV] 31)).trans (Turn.setCell _ R 2 (.int .i64 ((s.n : Int) + 1))))
 have hRl := H.out.lt R (.inl rfl)
 have hT0R : ¬ w.heap.size = R := by omega
 have HT0 := hid ((Below.heap_setCell (w.alloc (.cells #[.int .i64 0,.int .i64 0,.complex .f64 0 0,.string ⟨#[]⟩,.int .i64 0,.int .u32 0,.int .u64 0,nilV,nilV] 31)) ⟨R,2,none⟩ (.int .i64 ((s.n : Int) + 1)) _ hT0R).trans (heap_new w _))
 generalize (w.alloc (.cells #[.int .i64 0,.int .i64 0,.complex .f64 0 0,.string ⟨#[]⟩,.int .i64 0,.int .u32 0,.int .u64 0,nilV,nilV] 31)).setCell ⟨R,2,none⟩ (.int .i64 ((s.n : Int) + 1)) = w2 at *
 have H1 := one_any R p m v bv bs _ w2 HR2.out
 rw [HO.out] at H1
 obtain ⟨N,hN⟩ : ∃ N,w.heap.size = N := ⟨_,rfl⟩
 rw [hN] at hRl hT0R HT0 ⊢
 have HN := hid hN
 refine H1.mono ?_
 rintro e w3 ⟨rfl,hR3,hT3⟩
 have HR3 := hid hR3
 have HT3 := hid (HT2.out.trans hT3)
 have HT03 := hid ((hT3.block N (blk_lt HT0.out) hT0R).trans HT0.out)
 have hNl : N < w3.heap.size := blk_lt HT03.out
 clear hR3 hT3 hN HA HR2 HT2 HT0 H1 r2 rf hn' HO
 have HR4 := hid (HR3.out.below ((Below.refl _ w3).alloc (Nat.le_refl _) (.cells #[.int .i64 2,.int .i64 0,.complex .f64 0 0,.string ⟨#[]⟩,.int .i64 0,.int .u32 0,.int .u64 0,nilV,nilV] 31)))
 have HT4 := hid (turnR (p := p) (m := m) (v := v) (HT3.out.trans (Turn.alloc (fun i => i = R) w3 (.cells #[.int .i64 2,.int .i64 0,.complex .f64 0 0,.string ⟨#[]⟩,.int .i64 0,.int .u32 0,.int .u64 0,nilV,nilV] 31))))
 have HT04 := hid ((Below.heap_alloc w3 (.cells #[.int .i64 2,.int .i64 0,.complex .f64 0 0,.string ⟨#[]⟩,.int .i64 0,.int .u32 0,.int .u64 0,nilV,nilV] 31) N hNl).trans HT03.out)
 have HT14 := hid (heap_new w3 (.cells #[.int .i64 2,.int .i64 0,.complex .f64 0 0,.string ⟨#[]⟩,.int .i64 0,.int .u32 0,.int .u64 0,nilV,nilV] 31))
 have hT1R : ¬ w3.heap.size = R := by omega
 obtain ⟨k0,k1,k2,k3,k4,k5,k6,k7,k8⟩ := NineAt.of_block HT14.out
 go_wp2_with fail
 clear k0 k1 k2 k3 k4 k5 k6 k7 k8 HR3 HT3 HT03
 generalize w3.alloc (.cells #[.int .i64 2,.int .i64 0,.complex .f64 0 0,.string ⟨#[]⟩,.int .i64 0,.int .u32 0,.int .u64 0,nilV,nilV] 31) = w4 at *
 generalize w3.heap.size = T at *
 have HW := float_any R p m v bv bs s1 w4 HR4.out
 cases hw : someP bs 8 s1 with
 | error x =>
  rw [hw] at HW
  have HK := hid (show kindP bs sub 2 s1 = .error x by simp [kindP,(some16_err1 hw).2])
  have HW := hid HW
  clear hw
  refine HW.out.mono ?_
  rintro e w5 ⟨rfl,hT5⟩
  go_wp2_with fail
  refine ⟨rfl,?_⟩
  rw [HK.out]
  exact ⟨rfl,HT4.out.trans (turnR hT5)⟩
 | ok y =>
  obtain ⟨l1,s2⟩ := y
  rw [hw] at HW
  have HU := hid hw
  have HW := hid HW
  clear hw
  refine HW.out.mono ?_
  rintro e w5 ⟨rfl,hR5,hT5⟩
  have HR5 := hid hR5
  have HT5 := hid (HT4.out.trans (turnR hT5))
  have HT05 := hid ((hT5.block N (blk_lt HT04.out) hT0R).trans HT04.out)
  have HT15 := hid ((hT5.block T (blk_lt HT14.out) hT1R).trans HT14.out)
  clear hR5 hT5 HR4 HT4 HT04 HT14 HW
  have HWb := float_any R p m v bv bs s2 w5 HR5.out
  cases hw : someP bs 8 s2 with
  | error x =>
   rw [hw] at HWb
   have HK := hid (show kindP bs sub 2 s1 = .error x by simp [kindP,some16_err2 HU.out hw])
   have HWb := hid HWb
   clear hw
   go_wp2_with fail
   refine HWb.out.mono ?_
   rintro e w6 ⟨rfl,hT6⟩
   go_wp2_with fail
   refine ⟨rfl,?_⟩
   rw [HK.out]
   exact ⟨rfl,HT5.out.trans (turnR hT6)⟩
  | ok y =>
   obtain ⟨l2,s3⟩ := y
   rw [hw] at HWb
   have HK := hid (kind2_eq (sub := sub) HU.out hw)
   have HA := hid (word8 HU.out)
   have HB := hid (word8 hw)
   have HWb := hid HWb
   clear hw HU
   go_wp2_with fail
   refine HWb.out.mono ?_
   rintro e w6 ⟨rfl,hR6,hT6⟩
   have HR6 := hid hR6
   have HT6 := hid (HT5.out.trans (turnR hT6))
   have HT06 := hid ((hT6.block N (blk_lt HT05.out) hT0R).trans HT05.out)
   have HT16 := hid ((hT6.block T (blk_lt HT15.out) hT1R).trans HT15.out)
   clear hR6 hT6 HR5 HT5 HT05 HT15 HWb
   have hNT : ¬ N = T := by omega
   obtain ⟨k0,k1,k2,k3,k4,k5,k6,k7,k8⟩ := NineAt.of_block HT16.out
   have f1 := blk_fz HT16.out 2
   go_wp2_with fail
   clear k0 k1 k2 k3 k4 k5 k6 k7 k8 f1
   have hNw := HN.out
   have HR7 := hid (rd_setT (o := 2) (u := .complex .f64 (wordOf l1) (wordOf l2)) H.out HR6.out (show w.heap.size ≤ T by omega) (.inl rfl))
   have HT7 := hid (turn_setT (o := 2) (u := .complex .f64 (wordOf l1) (wordOf l2)) HT6.out (show w.heap.size ≤ T by omega))
   have HT07 := hid ((Below.heap_setCell w6 ⟨T,2,none⟩ (.complex .f64 (wordOf l1) (wordOf l2)) _ hNT).trans HT06.out)
   have HT17 : Hid ((w6.setCell ⟨T,2,none⟩ (.complex .f64 (wordOf l1) (wordOf l2))).heap[T]? = some (.cells #[.int .i64 2,.int .i64 0,.complex .f64 (wordOf l1) (wordOf l2),.string ⟨#[]⟩,.int .i64 0,.int .u32 0,.int .u64 0,nilV,nilV] 31 (0,0))) := heap_setCell_at HT16.out
   clear hNw HR6 HT6 HT06 HT16
   generalize w6.setCell ⟨T,2,none⟩ (.complex .f64 (wordOf l1) (wordOf l2)) = w7 at *
   refine (right2_any (wordOf l1) (wordOf l2) HA.out HB.out w7).mono ?_
   rintro e w8 ⟨rfl,hb8⟩
   have HR8 := hid (HR7.out.below hb8)
   have HT8 := hid (HT7.out.trans (Turn.of_below hb8))
   have HT08 := hid ((hb8.block N (blk_lt HT07.out)).trans HT07.out)
   have HT18 := hid ((hb8.block T (blk_lt HT17.out)).trans HT17.out)
   clear hb8 HR7 HT7 HT07 HT17
   cases hI : (okF (wordOf l1) && okF (wordOf l2)) with
   | false =>
    rw [hI] at HK
    clear hI
    go_wp2_with fail
    refine (must_no _ _).mono ?_
    rintro e w9 ⟨rfl,rfl⟩
    go_wp2_with fail
    refine ⟨rfl,?_⟩
    rw [HK.out]
    exact ⟨rfl,HT8.out⟩
   | true =>
    rw [hI] at HK
    clear hI
    go_wp2_with fail
    refine (must_yes _ _).mono ?_
    rintro e w9 ⟨rfl,rfl⟩
    obtain ⟨k0,k1,k2,k3,k4,k5,k6,k7,k8⟩ := NineAt.of_block HT18.out
    go_wp2_with (refine wpList_store_row rfl 31 (.tmp 4) (.tmp 155) rfl N #[.int .i64 2,.int .i64 0,.complex .f64 (wordOf l1) (wordOf l2),.string ⟨#[]⟩,.int .i64 0,.int .u32 0,.int .u64 0,nilV,nilV] rfl rfl 31 #[.int .i64 0,.int .i64 0,.complex .f64 0 0,.string ⟨#[]⟩,.int .i64 0,.int .u32 0,.int .u64 0,nilV,nilV] HT08.out infoT rfl (by simp [Array.all,Value.oneCell']) ?_)
    clear k0 k1 k2 k3 k4 k5 k6 k7 k8
    have ht9 := NineAt.of_block (setRow_heap w9 N #[.int .i64 0,.int .i64 0,.complex .f64 0 0,.string ⟨#[]⟩,.int .i64 0,.int .u32 0,.int .u64 0,nilV,nilV] #[.int .i64 2,.int .i64 0,.complex .f64 (wordOf l1) (wordOf l2),.string ⟨#[]⟩,.int .i64 0,.int .u32 0,.int .u64 0,nilV,nilV] 31 (0,0) HT08.out)
    have HC := hid (rp_close (cs := #[.int .i64 2,.int .i64 0,.complex .f64 (wordOf l1) (wordOf l2),.string ⟨#[]⟩,.int .i64 0,.int .u32 0,.int .u64 0,nilV,nilV]) H.out HR8.out HT8.out HN.out (.inl rfl) (Rep.leaf (h := { kind := 2,re := wordOf l1,im := wordOf l2 }) rfl))
    generalize w9.setRow N #[.int .i64 2,.int .i64 0,.complex .f64 (wordOf l1) (wordOf l2),.string ⟨#[]⟩,.int .i64 0,.int .u32 0,.int .u64 0,nilV,nilV] = wz at *
    obtain ⟨k0,k1,k2,k3,k4,k5,k6,k7,k8⟩ := ht9
    exact bodyPost_ret (v := .agg #[.int .i64 2,.int .i64 0,.complex .f64 (wordOf l1) (wordOf l2),.string ⟨#[]⟩,.int .i64 0,.int .u32 0,.int .u64 0,nilV,nilV]) (by simp [results,Try.results25,go_sem,k0,k1,k2,k3,k4,k5,k6,k7,k8]) rfl (by rw [HK.out]; exact ⟨v,_,rfl,HC.out⟩)
end Go.Proofs.Ytgadkiljnebicaa
