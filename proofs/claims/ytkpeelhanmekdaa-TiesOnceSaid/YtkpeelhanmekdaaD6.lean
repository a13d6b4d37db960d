/- rookerylaw22.alive, walked. -/
import Derived.Test.YtkpeelhanmekdaaD5
namespace Go.Proofs.Ytkpeelhanmekdaa
set_option linter.unusedVariables false
set_option linter.unusedSimpArgs false
set_option linter.constructorNameAsVariable false
open Go.Shelf Go.RowKit Go.Lib Go.Proofs
set_option maxRecDepth 100000
attribute [local go_sem] run_store_complex

set_option maxHeartbeats 4000000 in
theorem alive_any (hS : SortTold) (hN : NoneTold) (w : World) : Calls Try.prog 4 #[] w (RB w (.bool true)) := by
  have HSo := Lib.hid hS
  have HNo := Lib.hid hN
  clear hS hN
  go_enter Try.func4, Try.ntmps4
  go_wp2_with fail
  refine (id_any 1 1 _).mono ?_
  rintro e w1 ⟨rfl, hb1⟩
  have HB1 := Lib.hid hb1
  clear hb1
  go_wp2_with fail
  refine (new_any ⟨1, 1, 1⟩ (idok 1 1 (by decide) (by decide) (by decide) (by decide)) _).mono ?_
  rintro e w2 ⟨p, ml, mm, mt, rfl, ht, hb, hp, hmaps⟩
  have HT2 := Lib.hid ht
  have HB2 := Lib.hid (HB1.out.trans (hb.mono HB1.out.size))
  have hp2 : w.heap.size ≤ p := Nat.le_trans HB1.out.size hp
  have HMp := Lib.hid (fun b e => Nat.le_trans HB1.out.size (hmaps b e))
  clear ht hb hp hmaps HB1
  go_wp2_with fail
  refine (id_any 2 5 _).mono ?_
  rintro e w3 ⟨rfl, hb⟩
  have HT3 := Lib.hid (HT2.out.below hb)
  have HB3 := Lib.hid (HB2.out.trans (hb.mono HB2.out.size))
  clear hb HT2 HB2
  go_wp2_with fail
  refine (link_any ⟨2, 1, 5⟩ ⟨1, 1, 1⟩ (idok 2 5 (by decide) (by decide) (by decide) (by decide)) p ml mm mt [] [] [] _ HT3.out (by simp) (by decide) (by simp)).mono ?_
  rintro e w4 ⟨rfl, ht, hb⟩
  have HT4 := Lib.hid ht
  have HB4 := Lib.hid (HB3.out.trans (hb.below HB3.out.size HMp.out))
  clear ht hb HT3 HB3
  go_wp2_with fail
  refine (id_any 2 9 _).mono ?_
  rintro e w5 ⟨rfl, hb⟩
  have HT5 := Lib.hid (HT4.out.below hb)
  have HB5 := Lib.hid (HB4.out.trans (hb.mono HB4.out.size))
  clear hb HT4 HB4
  go_wp2_with fail
  refine (id_any 2 6 _).mono ?_
  rintro e w6 ⟨rfl, hb⟩
  have HT6 := Lib.hid (HT5.out.below hb)
  have HB6 := Lib.hid (HB5.out.trans (hb.mono HB5.out.size))
  clear hb HT5 HB5
  go_wp2_with fail
  refine (watched_any ⟨2, 1, 9⟩ ⟨2, 1, 6⟩ ⟨1, 1, 1⟩ (idok 2 9 (by decide) (by decide) (by decide) (by decide)) (idok 2 6 (by decide) (by decide) (by decide) (by decide)) p ml mm mt [⟨2, 1, 5⟩] [] [] _ HT6.out (by simp) (by simp)).mono ?_
  rintro e w7 ⟨rfl, ht, hb⟩
  have HT7 := Lib.hid ht
  have HB7 := Lib.hid (HB6.out.trans (hb.below HB6.out.size HMp.out))
  clear ht hb HT6 HB6
  go_wp2_with fail
  refine (end_any HSo.out HNo.out 3 0 ⟨#[97]⟩ (right_atom _ (by decide)) p ml mm mt ⟨1, 1, 1⟩ [⟨2, 1, 5⟩] [] [(⟨2, 1, 9⟩, ⟨2, 1, 6⟩)] _ HT7.out (by simp) (by simp)).mono ?_
  rintro e w8 ⟨a, c, Ls, Ts, rfl, hp1, hp3, hrow, ht, hb⟩
  obtain rfl := List.perm_singleton.1 hp1
  obtain rfl := List.perm_singleton.1 hp3
  have HT8 := Lib.hid ht
  have HB8 := Lib.hid (HB7.out.trans (hb.below HB7.out.size HMp.out))
  have HRw := Lib.hid hrow
  clear ht hb HB7 hp1 hp3 hrow
  go_upto_region 5 with fail
  have hrw := HRw.out
  rcases hrw.2 with ⟨e0, e1⟩ | ⟨g, cap, cur, e0, hgb, hg, -, -, -, -⟩
  · cases e1
  · cases e0
    have hgl : g < w8.heap.size := blk_lt hg
    have hc := fun j v => hrw.cells (g := g) rfl j v
    have HSt : Hid (∀ w' : World, w'.heap[g]? = w8.heap[g]? → w'.cell? ⟨g, 0, none⟩ = some (.int .i64 4) ∧ w'.cell? ⟨g, 4, none⟩ = some (.int .i64 2) ∧ w'.cell? ⟨g, 5, none⟩ = some (.int .u32 1) ∧ w'.cell? ⟨g, 6, none⟩ = some (.int .u64 5) ∧ w'.cell? ⟨g, 20, none⟩ = some (.int .i64 7) ∧ w'.cell? ⟨g, 27, none⟩ = some (.int .i64 2) ∧ w'.cell? ⟨g, 28, none⟩ = some (.int .u32 1) ∧ w'.cell? ⟨g, 29, none⟩ = some (.int .u64 9)) := Lib.hid (fun w' h1 => by
      have key : ∀ (j : Nat) v, (cat (List.map (fun x : Idd => sgC 4 ⟨1, 1, 1⟩ x id0 3 0 ⟨#[97]⟩ 1) [⟨2, 1, 5⟩] ++ List.map (fun x : Idd × Idd => sgC 7 ⟨1, 1, 1⟩ x.2 x.1 3 0 ⟨#[97]⟩ 0) [(⟨2, 1, 9⟩, ⟨2, 1, 6⟩)]))[j]? = some v → w'.cell? ⟨g, j, none⟩ = some v := fun j v h => by
        rw [World.cell?_of_block h1]
        have := hc j v h
        simpa [Addr.add_lit] using this
      exact ⟨key 0 _ rfl, key 4 _ rfl, key 5 _ rfl, key 6 _ rfl, key 20 _ rfl, key 27 _ rfl, key 28 _ rfl, key 29 _ rfl⟩)
    have HGm := Lib.hid (show ¬ TS ml mm mt g from fun e => by
      rcases e with rfl | rfl | rfl
      · have := HT7.out.links.lt; omega
      · have := HT7.out.mine.lt; omega
      · have := HT7.out.theirs.lt; omega)
    clear hrw hgb hg hc HRw HT7
    have HWc := Lib.hid (Below.refl w8.heap.size w8).drew
    have hS := HSt.out w8.drew rfl
    obtain ⟨x0, x1, x2, x3, x4, x5, x6, x7⟩ := HSt.out w8 rfl
    go_region_held3 (fun w' => w'.cell? ⟨g, 0, none⟩ = some (.int .i64 4) ∧ w'.cell? ⟨g, 4, none⟩ = some (.int .i64 2) ∧ w'.cell? ⟨g, 5, none⟩ = some (.int .u32 1) ∧ w'.cell? ⟨g, 6, none⟩ = some (.int .u64 5) ∧ w'.cell? ⟨g, 20, none⟩ = some (.int .i64 7) ∧ w'.cell? ⟨g, 27, none⟩ = some (.int .i64 2) ∧ w'.cell? ⟨g, 28, none⟩ = some (.int .u32 1) ∧ w'.cell? ⟨g, 29, none⟩ = some (.int .u64 9)) (first
        | (with_reducible exact hS)
        | go_keep)
      (first
        | (go_at_call 6; refine (id_any _ _ _).mono ?_; rintro e wa ⟨rfl, hba⟩; have hH := HWc.out.trans (hba.mono HWc.out.size); clear HWc; have HWc := Lib.hid hH; clear hH hba; have hS := HSt.out _ (HWc.out.block g hgl))
        | (go_at_call 14; refine (end_any HSo.out HNo.out 3 0 ⟨#[97]⟩ (right_atom _ (by decide)) p ml mm mt ⟨1, 1, 1⟩ [] [] [] _ (HT8.out.below HWc.out) (by simp) (by simp)).mono ?_; rintro e w9 ⟨a9, c9, Ls, Ts, rfl, hp1, hp3, hrow, ht, hb⟩; obtain rfl := List.perm_nil.1 hp1; obtain rfl := List.perm_nil.1 hp3; have HB9 := Lib.hid (HB8.out.trans ((HWc.out.mono (by have := HB8.out.size; omega)).trans (hb.below (by have := HB8.out.size; have := HWc.out.size; omega) HMp.out))); have hS := HSt.out _ ((hb.block g (Nat.lt_of_lt_of_le hgl HWc.out.size) HGm.out).trans (HWc.out.block g hgl)); clear hp1 hp3 hrow ht hb))
    clear hS x0 x1 x2 x3 x4 x5 x6 x7
    go_wp2_with fail
    go_ret
    exact ⟨rfl, HB9.out⟩
end Go.Proofs.Ytkpeelhanmekdaa
