/- serial.Sort: what it does, by the library's contract. -/
import Derived.Test.YtdlcbejgadmdcaaS4
import Derived.RangeFuncBox
namespace Go.Proofs.Ytdlcbejgadmdcaa
open Go.Shelf Go.RowKit Go.Lib Go.Sort Go.Proofs

theorem infoU : (Try.prog.info? 22).map (fun i => (i.zero, i.size, i.bytes)) = some (some (.int .u32 0), 1, 4) := by kernel_rfl
theorem encU_one : ∀ (l : List U), ∀ u ∈ l.map encU, u.oneCell' = true := by
  intro l u hu
  obtain ⟨x, _, rfl⟩ := List.mem_map.1 hu
  rfl
theorem closure_reads (base : U) (b : Nat) (w : World) (blk : Nat) (n : Nat) (hne : blk ≠ b) (hb : w.cell? ⟨b, 0, none⟩ = some (.int .u32 base.1)) :
    CmpReads Try.prog 19 #[.pointer (some ⟨b, 0, none⟩)] encU (cfU base.1) blk 0 n w := by
  intro m os dk hs x y
  have hc : (sortWorld encU w blk 0 m dk os).cell? ⟨b, 0, none⟩ = some (.int .u32 base.1) := by
    unfold sortWorld
    have hlt : b < w.heap.size := cell_lt hb
    rw [cell?_grow _ os _ (by rw [size_putRow]; exact hlt), cell?_putRow_other _ _ _ _ _ _ (.inl (fun e => hne e.symm))]
    exact hb
  exact closure_any base.1 x.1 y.1 b _ hc
/-- the library's sort, some elements -/
def SortTold : Prop := ∀ (base : U) (b blk cap : Nat) (l : List U) (w : World), blk ≠ b → w.cell? ⟨b, 0, none⟩ = some (.int .u32 base.1) → Holds encU w blk 0 l.toArray → blk < w.heap.size → l.length < 4611686018427387904 →
  Calls Try.prog 18 #[.slice (some ⟨blk, 0, none⟩) l.length cap, .func (.func 19) #[] #[.pointer (some ⟨b, 0, none⟩)]] w fun e w' => e = .returned (.tuple #[]) ∧ ∃ n os, w' = sortWorld encU w blk 0 n (sortU base.1 l).toArray os
/-- the library's sort, none -/
def NoneTold : Prop := ∀ (p : Option Addr) (cap : Nat) (fv : Value) (w : World), Calls Try.prog 18 #[.slice p 0 cap, fv] w fun e w' => e = .returned (.tuple #[]) ∧ w = w'
theorem sort_mid (base : U) (W : World) {w1 : World} {a' : Option Addr} {c' n : Nat} {xs : List Value} (hown : w1.ownsRow (W.heap.size + 1) 22 1 (.slice a' (0 + n) c') (0 + n) ([] ++ xs)) (hgrow : (W.alloc (.cells #[.int .u32 base.1] 22)).grownBy w1 (Value.slice none 0 0).ownBlock) :
    Hid (w1.ownsRow (W.heap.size + 1) 22 1 (.slice a' n c') n xs) ∧ Hid (w1.cell? ⟨W.heap.size, 0, none⟩ = some (.int .u32 base.1)) ∧ Hid (Below W.heap.size W w1) := by
  simp only [Nat.zero_add, List.nil_append] at hown
  have hb1 : Below (W.heap.size + 1) (W.alloc (.cells #[.int .u32 base.1] 22)) w1 := (Turn.of_grownBy hgrow).below (by simp) (fun i e => by cases e)
  have hbW : Below W.heap.size W w1 := ((Below.refl W.heap.size W).alloc (Nat.le_refl _) (.cells #[.int .u32 base.1] 22)).trans (hb1.mono (by omega))
  have hcb : w1.cell? ⟨W.heap.size, 0, none⟩ = some (.int .u32 base.1) := by rw [hb1.cell (by simp)]; simp
  exact ⟨Lib.hid hown, Lib.hid hcb, Lib.hid hbW⟩
set_option maxHeartbeats 1000000 in
theorem sort_of (hS : SortTold) (hN : NoneTold) (base : U) (v : Value) (l : List U) (W : World) (hv : Sl W v (l.map encU)) (hl : l.length * 4 ≤ 140737488355328) :
    Calls Try.prog 15 #[.int .u32 base.1, v] W (RE W fun r w' => w'.ownsRow W.heap.size 22 1 r l.length ((sortU base.1 l).map encU)) := by
  obtain ⟨i0, hi, hz0, hz1, hz2⟩ := info_parts infoU
  have hsrc := Lib.hid ((hv.alloc (.cells #[.int .u32 base.1] 22)).src Try.underlying29 (encU_one l))
  have hlen : (l.map encU).length = l.length := by simp
  obtain ⟨a, c, rfl, -, -⟩ := hv
  rw [hlen] at hsrc ⊢
  have H1 := Lib.hid hi
  have H2 := Lib.hid hz0
  have H3 := Lib.hid hz1
  have H4 := Lib.hid hz2
  clear hi hz0 hz1 hz2 hlen
  go_enter Try.func15, Try.ntmps15
  go_wp2_with (at_builtin; refine wpList_app _ rfl (.const (.slice none 0 0)) (.tmp 6) 29 29 rfl (W.heap.size + 1) 22 i0 (.int .u32 0) 1 4 Try.underlying29 H1.out H2.out H3.out H4.out rfl (by decide) (.slice none 0 0) 0 [] rfl (World.ownsRow_nil _ _ _ _) _ l.length _ rfl hsrc.out (by unfold maxLen; omega) (by omega) (by simp) ?_; intro a' c' w1 hown hgrow hnil hblk; obtain ⟨HO, HC, HB⟩ := sort_mid base W hown hgrow; clear hown hgrow hnil hblk hsrc; simp only [Nat.zero_add])
  by_cases h0 : l.length = 0
  · rw [h0] at HO ⊢
    have HL := Lib.hid h0
    clear h0
    go_wp2_with fail
    refine (hN _ _ _ _).mono ?_
    rintro e w2 ⟨rfl, rfl⟩
    go_wp2_with fail
    go_ret
    refine ⟨_, rfl, ?_, HB.out⟩
    have e1 := List.eq_nil_of_length_eq_zero HL.out
    subst e1
    have e2 : sortU base.1 [] = [] := by simp [sortU]
    rw [e2]
    exact owns_mono HO.out (Nat.le_succ _)
  · obtain ⟨g, cap, e0, hg, hlt, hn, hm, hll, hH⟩ := holds_of_ownsRow HO.out (by intro h; injection h with _ h2 _; exact h0 h2)
    cases e0
    have HH := Lib.hid hH
    clear hH h0
    go_wp2_with fail
    refine (hS base W.heap.size g c' l w1 (by omega) HC.out HH.out hlt (by omega)).mono ?_
    rintro e w2 ⟨rfl, n, os, rfl⟩
    go_wp2_with fail
    go_ret
    refine ⟨_, rfl, ?_, ?_⟩
    · have := ownsRow_putRow (q := n) (ys := sortU base.1 l) (k := l.length) HO.out (sortU_length _ _) (Nat.le_refl _)
      rw [List.take_of_length_le (by rw [sortU_length]; omega)] at this
      exact owns_mono (owns_grow this os) (Nat.le_succ _)
    · exact below_grow (below_putRow HB.out (by omega)) (by rw [size_putRow]; exact HB.out.size) os
end Go.Proofs.Ytdlcbejgadmdcaa
