/- serial.Sort: the order of the numbers seen from a base; the library's contract laid; the sort's plain function. -/
import Derived.Test.YtdlcbejgadmdcaaS3
import Derived.Test.YtdlcbejgadmdcaaL4
import Derived.Shelf.SlLaysF
import Derived.Shelf.SlSortCmp.Insertion
import Derived.Shelf.GgSortFunc.SW
import Derived.Ground.SlsfProg
import Derived.Lib.OwnBridge
import Derived.WalkKit
namespace Go.Proofs.Ytdlcbejgadmdcaa
open Go.Shelf
def sortL_ren : Go.Shelf.Ren := ⟨fun | 6 => 18 | 15 => 21 | 14 => 20 | 28 => 30 | 29 => 31 | 20 => 22 | 21 => 23 | 22 => 24 | 23 => 25 | 24 => 26 | 25 => 27 | 26 => 28 | 27 => 29 | 46 => 32 | 47 => 33 | 48 => 34 | 49 => 35 | 50 => 36 | 57 => 37 | n => n, fun | 22 => 29 | 24 => 22 | 25 => 34 | 3 => 3 | 39 => 37 | 0 => 0 | 53 => 22 | 55 => 24 | 4 => 4 | 46 => 40 | 45 => 39 | 50 => 44 | 5 => 5 | 9 => 9 | 66 => 48 | 70 => 52 | 76 => 54 | 77 => 55 | n => n, fun | n => n⟩
theorem sortL : Go.Proofs.SlLaysF.n6 Try.prog sortL_ren := {
  mixed := by kernel_rfl
  f6 := ⟨Try.f18.name, by decide, Try.func18.trans (congrArg some (by kernel_rfl))⟩
  f14 := ⟨Try.f20.name, by decide, Try.func20.trans (congrArg some (by kernel_rfl))⟩
  f15 := Try.func21.trans (congrArg some (by kernel_rfl))
  f20 := ⟨Try.f22.name, by decide, Try.func22.trans (congrArg some (by kernel_rfl))⟩
  f21 := ⟨Try.f23.name, by decide, Try.func23.trans (congrArg some (by kernel_rfl))⟩
  f22 := ⟨Try.f24.name, by decide, Try.func24.trans (congrArg some (by kernel_rfl))⟩
  f23 := ⟨Try.f25.name, by decide, Try.func25.trans (congrArg some (by kernel_rfl))⟩
  f24 := ⟨Try.f26.name, by decide, Try.func26.trans (congrArg some (by kernel_rfl))⟩
  f25 := ⟨Try.f27.name, by decide, Try.func27.trans (congrArg some (by kernel_rfl))⟩
  f26 := ⟨Try.f28.name, by decide, Try.func28.trans (congrArg some (by kernel_rfl))⟩
  f27 := ⟨Try.f29.name, by decide, Try.func29.trans (congrArg some (by kernel_rfl))⟩
  f28 := Try.func30.trans (congrArg some (by kernel_rfl))
  f29 := Try.func31.trans (congrArg some (by kernel_rfl))
  f46 := ⟨Try.f32.name, by decide, Try.func32.trans (congrArg some (by kernel_rfl))⟩
  f47 := Try.func33.trans (congrArg some (by kernel_rfl))
  f48 := Try.func34.trans (congrArg some (by kernel_rfl))
  f49 := ⟨Try.f35.name, by decide, Try.func35.trans (congrArg some (by kernel_rfl))⟩
  f50 := ⟨Try.f36.name, by decide, Try.func36.trans (congrArg some (by kernel_rfl))⟩
  f57 := ⟨Try.f37.name, by decide, Try.func37.trans (congrArg some (by kernel_rfl))⟩
  t0 := Try.underlying0
  a0 := Try.isAgg0
  z0 := Try.sizeOf0
  v0 := Try.zeroValue0
  t3 := Try.underlying3
  a3 := Try.isAgg3
  z3 := Try.sizeOf3
  v3 := Try.zeroValue3
  t4 := Try.underlying4
  a4 := Try.isAgg4
  z4 := Try.sizeOf4
  v4 := Try.zeroValue4
  t5 := Try.underlying5
  a5 := Try.isAgg5
  z5 := Try.sizeOf5
  v5 := Try.zeroValue5
  t9 := Try.underlying9
  a9 := Try.isAgg9
  z9 := Try.sizeOf9
  v9 := Try.zeroValue9
  t22 := Try.underlying29
  a22 := Try.isAgg29
  z22 := Try.sizeOf29
  v22 := Try.zeroValue29
  a24 := Try.isAgg22
  z24 := Try.sizeOf22
  t25 := Try.underlying34
  a25 := Try.isAgg34
  z25 := Try.sizeOf34
  v25 := Try.zeroValue34
  t39 := Try.underlying37
  a39 := Try.isAgg37
  z39 := Try.sizeOf37
  v39 := Try.zeroValue37
  t45 := Try.underlying39
  a45 := Try.isAgg39
  z45 := Try.sizeOf39
  v45 := Try.zeroValue39
  t46 := Try.underlying40
  a46 := Try.isAgg40
  z46 := Try.sizeOf40
  v46 := Try.zeroValue40
  t50 := Try.underlying44
  a50 := Try.isAgg44
  z50 := Try.sizeOf44
  v50 := Try.zeroValue44
  t53 := Try.underlying22
  a53 := Try.isAgg22
  z53 := Try.sizeOf22
  v53 := Try.zeroValue22
  t55 := Try.underlying24
  a55 := Try.isAgg24
  z55 := Try.sizeOf24
  v55 := Try.zeroValue24
  t66 := Try.underlying48
  a66 := Try.isAgg48
  z66 := Try.sizeOf48
  v66 := Try.zeroValue48
  t70 := Try.underlying52
  a70 := Try.isAgg52
  z70 := Try.sizeOf52
  v70 := Try.zeroValue52
  t76 := Try.underlying54
  a76 := Try.isAgg54
  z76 := Try.sizeOf54
  v76 := Try.zeroValue54
  t77 := Try.underlying55
  a77 := Try.isAgg55
  z77 := Try.sizeOf55
  v77 := Try.zeroValue55 }
end Go.Proofs.Ytdlcbejgadmdcaa
namespace Go.Proofs.Ytdlcbejgadmdcaa
open Go.Shelf Go.RowKit Go.Lib Go.Sort Go.Proofs

/-- a number of 32 bits -/
abbrev U := { a : Int // 0 ≤ a ∧ a < 4294967296 }
instance : Inhabited U := ⟨⟨0, by omega⟩⟩
def encU (x : U) : Value := .int .u32 x.1
def cfU (base : Int) (x y : U) : Int := cfS base x.1 y.1
theorem ltU (base : Int) (x y : U) : ltOf (cfU base) x y = decide (aheadI base x.1 < aheadI base y.1) := by
  unfold ltOf cfU cfS
  by_cases h1 : aheadI base x.1 < aheadI base y.1
  · simp [h1]
  · by_cases h2 : aheadI base y.1 < aheadI base x.1 <;> simp [h1, h2]
theorem swoU (base : Int) : SWO (ltOf (cfU base)) where
  irrefl x := by rw [ltU]; simp
  trans x y z h1 h2 := by rw [ltU] at *; simp at *; omega
  ntrans x y z h1 h2 := by rw [ltU] at *; simp at *; omega
theorem ahead_inj {base a b : Int} (ha : 0 ≤ a ∧ a < 4294967296) (hb : 0 ≤ b ∧ b < 4294967296) (h : aheadI base a = aheadI base b) : a = b := by
  rw [aheadI_eq, aheadI_eq] at h
  omega
theorem totU (base : Int) (x y : U) (h1 : ltOf (cfU base) x y = false) (h2 : ltOf (cfU base) y x = false) : x = y := by
  rw [ltU] at *
  simp at *
  exact Subtype.ext (ahead_inj (base := base) x.2 y.2 (by omega))
/-- the numbers by how far they lie ahead of base -/
def sortU (base : Int) (l : List U) : List U := l.mergeSort fun x y => !(ltOf (cfU base)) y x
theorem sortU_perm (base : Int) (l : List U) : (sortU base l).Perm l := List.mergeSort_perm _ _
theorem sortU_length (base : Int) (l : List U) : (sortU base l).length = l.length := (sortU_perm base l).length_eq
theorem sortU_rises (base : Int) (l : List U) : (sortU base l).Pairwise fun x y => aheadI base x.1 ≤ aheadI base y.1 := by
  have h := List.pairwise_mergeSort (le := fun x y : U => !(ltOf (cfU base)) y x) (fun a b c h1 h2 => by simp [ltU] at *; omega) (fun a b => by simp [ltU]; omega) l
  refine h.imp fun {a b} hab => ?_
  simpa [ltU] using hab
/-- a rising list of the same numbers is the sorted one -/
theorem sortU_unique (base : Int) {l m : List U} (hp : m.Perm l) (hs : m.Pairwise fun x y => aheadI base x.1 ≤ aheadI base y.1) : m = sortU base l :=
  List.Perm.eq_of_pairwise (le := fun x y : U => aheadI base x.1 ≤ aheadI base y.1) (fun a b _ _ h1 h2 => Subtype.ext (ahead_inj (base := base) a.2 b.2 (by omega))) hs (sortU_rises base l) (hp.trans (sortU_perm base l).symm)

theorem size_sortWorld {α : Type} [Inhabited α] (enc : α → Value) (w : World) (b o m : Nat) (d : Array α) (os : Array Obj) : w.heap.size ≤ (sortWorld enc w b o m d os).heap.size := by
  unfold sortWorld
  rw [size_grow, size_putRow]
  show w.heap.size ≤ w.heap.size + _
  omega
theorem below_grow {B : Nat} {w0 w : World} (h : Below B w0 w) (hB : B ≤ w.heap.size) (os : Array Obj) : Below B w0 (grow w os) :=
  ⟨h.os, h.tape, h.output, by have := h.size; simp; omega, fun k hk => by rw [heap_grow_old w os (by omega)]; exact h.block k hk⟩
theorem owns_grow {w : World} {base n size : Nat} {e : TypeId} {v : Value} {xs : List Value} (h : w.ownsRow base e size v n xs) (os : Array Obj) : (grow w os).ownsRow base e size v n xs := by
  obtain ⟨h1, h2⟩ := h
  refine ⟨h1, h2.imp id fun ⟨g, cap, cur, hv, hb, hg, r⟩ => ⟨g, cap, cur, hv, hb, ?_, r⟩⟩
  rw [heap_grow_old w os (Array.getElem?_eq_some_iff.1 hg).1, hg]
end Go.Proofs.Ytdlcbejgadmdcaa
