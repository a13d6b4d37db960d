/- The document's Sort: what it does. -/
import Derived.Test.YtdlcbejgadmdcaaT2
import Derived.Test.YtdlcbejgadmdcaaT3
import Derived.Test.YtdlcbejgadmdcaaL1
import Derived.IntWalk
namespace Go.Proofs.Ytdlcbejgadmdcaa
open Go.Shelf Go.RowKit Go.Lib Go.Sort Go.Proofs

theorem Sl.cut {W : World} {a : Option Addr} {n c : Nat} {xs : List Value} (h : Sl W (.slice a n c) xs) {k c' : Nat} (hk : k ≤ xs.length) : Sl W (.slice a k c') (xs.take k) := by
  obtain ⟨a', c0, e, hm, hc⟩ := h
  cases e
  have hl : (xs.take k).length = k := by simp; omega
  refine ⟨a, c', by rw [hl], by omega, fun hp => ?_⟩
  obtain ⟨b, off, rfl, hcell⟩ := hc (by omega)
  refine ⟨b, off, rfl, fun j hj => ?_⟩
  rw [hcell j (by omega)]
  simp
theorem Sl.rest {W : World} {g off n c : Nat} {xs : List Value} (h : Sl W (.slice (some ⟨g, off, none⟩) n c) xs) {k c' : Nat} {ad : Addr} (hk : k ≤ xs.length) (had : k < xs.length → ad = ⟨g, off + k, none⟩) : Sl W (.slice (some ad) (xs.length - k) c') (xs.drop k) := by
  obtain ⟨a', c0, e, hm, hc⟩ := h
  have ha : a' = some ⟨g, off, none⟩ := by injection e with e1 _ _; exact e1.symm
  subst ha
  refine ⟨some ad, c', by simp, by simp; omega, fun hp => ?_⟩
  simp at hp
  obtain ⟨b, o, e2, hcell⟩ := hc (by omega)
  cases e2
  refine ⟨g, off + k, by rw [had (by omega)], fun j hj => ?_⟩
  simp at hj
  rw [Nat.add_assoc, hcell (k + j) (by omega)]
  simp
theorem slice_to (w : World) (g n c k : Nat) (h : k ≤ c) : (Instr.slice 29 (.slice (some ⟨g, 0, none⟩) n c) none (some (.int .i64 k)) none).run Try.prog w = .ok (.slice (some ⟨g, 0, none⟩) k c) w := by
  have hk : ((k : Int)).toNat = k := by omega
  rw [run_slice_h (w := w) 29 (some ⟨g, 0, none⟩) n c (by kernel_rfl) .i64 k (by omega) (by omega), show Try.prog.elem 29 = 22 from by kernel_rfl, Try.sizeOf22]
  simp [Result.andThen, sliced, hk, Addr.add]
theorem slice_from (g n c k : Nat) (h : k ≤ n) (hn : n ≤ c) : ∃ ad : Addr, (k < n → ad = ⟨g, k, none⟩) ∧ ∀ w : World, (Instr.slice 29 (.slice (some ⟨g, 0, none⟩) n c) (some (.int .i64 ((k : Nat) : Int))) none none).run Try.prog w = .ok (.slice (some ad) (n - k) (c - k)) w := by
  have hk : ((k : Int)).toNat = k := by omega
  refine ⟨if c - k = 0 then ⟨g, 0, none⟩ else ⟨g, k, none⟩, fun h1 => by rw [if_neg (by omega)], fun w => ?_⟩
  rw [run_slice_l (w := w) 29 (some ⟨g, 0, none⟩) n c (by kernel_rfl) .i64 k (by omega) (by omega), show Try.prog.elem 29 = 22 from by kernel_rfl, Try.sizeOf22]
  by_cases hc : c = k
  · simp [Result.andThen, sliced, hk, hc]
  · have hc2 : ¬ c - k = 0 := by omega
    simp [Result.andThen, sliced, hk, hc, hc2, Addr.add_lit]
/-- o is sorted, lf is left -/
def Picked (base : Int) (l o lf : List U) : Prop :=
  (o ++ lf).Perm l ∧ (o.Pairwise fun x y => aheadI base x.1 ≤ aheadI base y.1) ∧ ∀ x ∈ o, ∀ y ∈ lf, aheadI base x.1 ≤ aheadI base y.1
theorem Picked.start (base : Int) (l : List U) : Picked base l [] l := ⟨.refl _, .nil, by simp⟩
theorem Picked.step {base : Int} {l o lf : List U} (h : Picked base l o lf) {k : Nat} (hk : k < lf.length) (hmin : ∀ j, (hj : j < lf.length) → aheadI base lf[k].1 ≤ aheadI base lf[j].1) :
    Picked base l (o ++ [lf[k]]) (lf.take k ++ lf.drop (k + 1)) := by
  obtain ⟨hp, hs, hb⟩ := h
  have hsub : ∀ y ∈ lf.take k ++ lf.drop (k + 1), y ∈ lf := fun y hy => (List.mem_append.1 hy).elim List.mem_of_mem_take List.mem_of_mem_drop
  have hperm : (lf[k] :: (lf.take k ++ lf.drop (k + 1))).Perm lf := by
    have h1 := (List.perm_middle (a := lf[k]) (l₁ := lf.take k) (l₂ := lf.drop (k + 1))).symm
    rw [List.getElem_cons_drop hk, List.take_append_drop] at h1
    exact h1
  refine ⟨?_, ?_, ?_⟩
  · rw [List.append_assoc]
    exact (List.Perm.append_left o hperm).trans hp
  · rw [List.pairwise_append]
    refine ⟨hs, by simp, fun x hx y hy => ?_⟩
    rw [List.mem_singleton.1 hy]
    exact hb x hx _ (List.getElem_mem hk)
  · intro x hx y hy
    rcases List.mem_append.1 hx with hx | hx
    · exact hb x hx y (hsub y hy)
    · rw [List.mem_singleton.1 hx]
      obtain ⟨j, hj, rfl⟩ := List.getElem_of_mem (hsub y hy)
      exact hmin j hj
theorem Picked.done {base : Int} {l o : List U} (h : Picked base l o []) : o = sortU base l := by
  obtain ⟨hp, hs, _⟩ := h
  rw [List.append_nil] at hp
  exact sortU_unique base hp hs
/-- the state of the outer loop -/
structure RefSt (w : World) (base : Int) (l o lf : List U) (t5 t6 : Value) (wr : World) : Prop where
  left : wr.ownsRow w.heap.size 22 1 t5 lf.length (lf.map encU)
  out : wr.ownsRow w.heap.size 22 1 t6 o.length (o.map encU)
  apart : ∀ b, t6.ownBlock = some b → t5.ownBlock ≠ some b
  below : Below w.heap.size w wr
  picked : Picked base l o lf
def refRel (w : World) (base : Int) (l : List U) (t5 t6 : Value) (wr : World) : Prop :=
  ∃ (o lf : List U) (a5 a6 : Option Addr) (c5 c6 : Nat), t5 = .slice a5 lf.length c5 ∧ t6 = .slice a6 o.length c6 ∧ RefSt w base l o lf t5 t6 wr
def lenOf (v : Value) : Nat := match v with | .slice _ n _ => n | _ => 0
/-- the one at k is the nearest of the first i -/
def MinTo (base : Int) (lf : List U) (k i : Nat) : Prop := ∃ hk : k < lf.length, ∀ j, (hj : j < lf.length) → j < i → aheadI base lf[k].1 ≤ aheadI base lf[j].1
/-- the state of the inner loop -/
def minRel (base : Int) (lf : List U) (w0 : World) (t7 t8 : Value) (wr : World) : Prop :=
  ∃ k i : Nat, t7 = .int .i64 k ∧ t8 = .int .i64 i ∧ 1 ≤ i ∧ i ≤ lf.length ∧ k < lf.length ∧ MinTo base lf k i ∧ ∃ q, wr = w0.drewN q
theorem ref_mid (W : World) {w1 : World} {a' : Option Addr} {c' n : Nat} {xs : List Value} (hown : w1.ownsRow W.heap.size 22 1 (.slice a' (0 + n) c') (0 + n) ([] ++ xs)) (hgrow : (W.alloc (.cells #[] 22)).grownBy w1 (Value.slice (some ⟨W.heap.size, 0, none⟩) 0 0).ownBlock) :
    Hid (w1.ownsRow W.heap.size 22 1 (.slice a' n c') n xs) ∧ Hid (Below W.heap.size W w1) := by
  simp only [Nat.zero_add, List.nil_append] at hown
  have hb1 : Below W.heap.size (W.alloc (.cells #[] 22)) w1 := (Turn.of_grownBy hgrow).below (by simp) (fun i e => by simp [Value.ownBlock] at e; omega)
  exact ⟨Lib.hid hown, Lib.hid (((Below.refl W.heap.size W).alloc (Nat.le_refl _) (.cells #[] 22)).trans hb1)⟩
theorem min_start (base : Int) (lf : List U) (h0 : 0 < lf.length) : ∀ j, (hj : j < lf.length) → j < 1 → aheadI base lf[0].1 ≤ aheadI base lf[j].1 := fun j hj h1 => by
  obtain rfl : j = 0 := by omega
  exact Int.le_refl _
theorem min_less {base : Int} {lf : List U} {k i : Nat} (hk : k < lf.length) (hi : i < lf.length) (h : ∀ j, (hj : j < lf.length) → j < i → aheadI base lf[k].1 ≤ aheadI base lf[j].1) (hless : aheadI base lf[i].1 < aheadI base lf[k].1) :
    ∀ j, (hj : j < lf.length) → j < i + 1 → aheadI base lf[i].1 ≤ aheadI base lf[j].1 := fun j hj h1 => by
  rcases Nat.lt_or_ge j i with h2 | h2
  · have := h j hj h2; omega
  · obtain rfl : j = i := by omega
    exact Int.le_refl _
theorem min_not {base : Int} {lf : List U} {k i : Nat} (hk : k < lf.length) (hi : i < lf.length) (h : ∀ j, (hj : j < lf.length) → j < i → aheadI base lf[k].1 ≤ aheadI base lf[j].1) (hless : ¬ aheadI base lf[i].1 < aheadI base lf[k].1) :
    ∀ j, (hj : j < lf.length) → j < i + 1 → aheadI base lf[k].1 ≤ aheadI base lf[j].1 := fun j hj h1 => by
  rcases Nat.lt_or_ge j i with h2 | h2
  · exact h j hj h2
  · obtain rfl : j = i := by omega
    omega
theorem below_drew {B : Nat} {a b : World} (h : Below B a b) : Below B a b.drew := ⟨h.os, h.tape, h.output, h.size, h.block⟩
theorem ref_mid2 (W : World) {w1 : World} {a' : Option Addr} {c' n : Nat} {xs : List Value} (hown : w1.ownsRow W.heap.size 22 1 (.slice a' (0 + n) c') (0 + n) ([] ++ xs)) (hgrow : (W.alloc (.cells #[] 22)).drew.grownBy w1 (Value.slice (some ⟨W.heap.size, 0, none⟩) 0 0).ownBlock) :
    Hid (w1.ownsRow W.heap.size 22 1 (.slice a' (0 + n) c') (0 + n) xs) ∧ Hid (Below W.heap.size W w1) := by
  simp only [List.nil_append] at hown
  have hb1 : Below W.heap.size (W.alloc (.cells #[] 22)).drew w1 := (Turn.of_grownBy hgrow).below (by simp) (fun i e => by simp [Value.ownBlock] at e; omega)
  exact ⟨Lib.hid hown, Lib.hid ((below_drew ((Below.refl W.heap.size W).alloc (Nat.le_refl _) (.cells #[] 22))).trans hb1)⟩
theorem ref_below9 {w7 w8 X w9 : World} {v : Value} {n : Nat} {xs : List Value} (ho : w8.ownsRow w7.heap.size 22 1 v n xs) (hb : Below w7.heap.size w7 w8) (hX : X.heap = w8.heap ∧ X.os = w8.os ∧ X.tape = w8.tape ∧ X.output = w8.output) (hg : X.grownBy w9 v.ownBlock) : Below w7.heap.size w7 w9 := by
  have hb8 : Below w7.heap.size w7 X := ⟨by rw [hX.2.1]; exact hb.os, by rw [hX.2.2.1]; exact hb.tape, by rw [hX.2.2.2]; exact hb.output, by rw [hX.1]; exact hb.size, fun k hk => by rw [hX.1]; exact hb.block k hk⟩
  exact hb8.trans ((Turn.of_grownBy hg).below hb8.size (fun i e => (ho.lt i e).1))
theorem below_drewW {B : Nat} {W wo wr : World} {q : Nat} (h : Below B W wo) (e : wr = wo.drewN q) : Below B W wr := by
  subst e
  exact ⟨h.os, h.tape, h.output, h.size, h.block⟩
theorem owns_below {w w' : World} {base n size : Nat} {e : TypeId} {v : Value} {xs : List Value} (h : w.ownsRow base e size v n xs) (hb : Below w.heap.size w w') : w'.ownsRow base e size v n xs := by
  obtain ⟨h1, h2⟩ := h
  refine ⟨h1, h2.imp id fun ⟨g, cap, cur, hv, hg, hh, r⟩ => ⟨g, cap, cur, hv, hg, ?_, r⟩⟩
  rw [hb.block g (Array.getElem?_eq_some_iff.1 hh).1, hh]
theorem ref_below7 {B : Nat} {wr w7 : World} {o : Obj} {v : Value} {n : Nat} {xs : List Value} (ho : wr.ownsRow B 22 1 v n xs) (hz : B ≤ wr.heap.size) (hg : (wr.alloc o).grownBy w7 v.ownBlock) : Below B wr w7 :=
  ((Below.refl B wr).alloc hz o).trans ((Turn.of_grownBy hg).below (by simp; omega) (fun i e => (ho.lt i e).1))
theorem cast_zero {w : World} {base k j c : Nat} {e : TypeId} {a : Option Addr} {xs : List Value} (h : w.ownsRow base e 1 (.slice a (0 + k + j) c) (0 + k + j) xs) : w.ownsRow base e 1 (.slice a (k + j) c) (k + j) xs := by
  rwa [Nat.zero_add] at h
/-- one round's end -/
theorem ref_round {W wr w7 w9 : World} {base : Int} {l o lf : List U} {y : U} {k : Nat} {a7 a9 : Option Addr} {c7 c9 m : Nat} (hk : k < lf.length) (hm : m = k + (lf.length - (k + 1))) (hbr : Below W.heap.size W wr)
    (hO7 : w7.ownsRow W.heap.size 22 1 (.slice a7 (o.length + 1) c7) (o.length + 1) (o.map encU ++ [encU y])) (hX7 : Below W.heap.size wr w7)
    (hO9 : w9.ownsRow w7.heap.size 22 1 (.slice a9 m c9) m ((lf.take k).map encU ++ (lf.drop (k + 1)).map encU)) (hB9 : Below w7.heap.size w7 w9)
    (hP : Picked base l (o ++ [y]) (lf.take k ++ lf.drop (k + 1))) : refRel W base l (.slice a9 m c9) (.slice a7 (o.length + 1) c7) w9 := by
  subst hm
  have hl : (lf.take k ++ lf.drop (k + 1)).length = k + (lf.length - (k + 1)) := by simp; omega
  have hb7 : Below W.heap.size W w7 := hbr.trans hX7
  refine ⟨o ++ [y], lf.take k ++ lf.drop (k + 1), a9, a7, c9, c7, by rw [hl], by simp, ?_⟩
  refine ⟨?_, ?_, ?_, hb7.trans (hB9.mono hb7.size), hP⟩
  · rw [hl, List.map_append]
    exact owns_mono hO9 hb7.size
  · rw [List.length_append, List.map_append]
    exact owns_below hO7 hB9
  · intro b hb hb5
    have h1 := (hO7.lt b hb).2
    have h2 := (hO9.lt b hb5).1
    omega
set_option maxHeartbeats 4000000 in
theorem refSort_any (base : U) (v : Value) (l : List U) (W : World) (hv : Sl W v (l.map encU)) (hl : l.length ≤ 300) :
    Calls Try.prog 16 #[.int .u32 base.1, v] W (RE W fun r w' => Sl w' r ((sortU base.1 l).map encU)) := by
  obtain ⟨i0, hi, hz0, hz1, hz2⟩ := info_parts infoU
  have hsrc := Lib.hid ((hv.alloc (.cells #[] 22)).src Try.underlying29 (encU_one l))
  have hlen : (l.map encU).length = l.length := by simp
  obtain ⟨a, c, rfl, -, -⟩ := hv
  rw [hlen] at hsrc ⊢
  have H1 := Lib.hid hi
  have H2 := Lib.hid hz0
  have H3 := Lib.hid hz1
  have H4 := Lib.hid hz2
  clear hi hz0 hz1 hz2 hlen
  go_enter Try.func16, Try.ntmps16
  go_wp2_with (at_builtin; refine wpList_app _ rfl (.tmp 9) (.tmp 10) 29 29 rfl W.heap.size 22 i0 (.int .u32 0) 1 4 Try.underlying29 H1.out H2.out H3.out H4.out rfl (by decide) _ 0 [] rfl (ownsRow_empty _ _ _) _ l.length _ rfl hsrc.out (by unfold maxLen; omega) (by omega) (by simp) ?_; intro a' c' w1 hown hgrow hnil hblk; obtain ⟨HO, HB⟩ := ref_mid W hown hgrow; clear hown hgrow hnil hblk hsrc; simp only [Nat.zero_add])
  go_loopw [5, 6] (fun t5 t6 wr => refRel W base.1 l t5 t6 wr) (fun t5 _ _ => lenOf t5)
  case atStart => exact ⟨[], l, _, none, _, 0, rfl, rfl, HO.out, World.ownsRow_nil _ _ _ _, by simp [Value.ownBlock], HB.out, Picked.start _ _⟩
  case round =>
    obtain ⟨o, lf, a5, a6, c5, c6, rfl, rfl, hst⟩ := hrel
    have HS := Lib.hid hst
    clear hst
    obtain ⟨wo, rfl⟩ : ∃ wo : World, wo = wr := ⟨_, rfl⟩
    by_cases h0 : 0 < lf.length
    · obtain ⟨g, cap, e0, hg, hgl, hn, hm, hll, hH⟩ := holds_of_ownsRow HS.out.left (by intro h; injection h with _ h2 _; omega)
      cases e0
      have HC : Hid (∀ j, (hj : j < lf.length) → wo.cell? ⟨g, j, none⟩ = some (.int .u32 lf[j].1)) := fun j hj => by
        have := (hH j (by simpa using hj)).1
        simpa [encU, hj] using this
      have hA : Hid (∀ (y : U) (w : World), Calls Try.prog 9 #[.int .u32 base.1, .int .u32 y.1] w fun e w' => e = .returned (.int .u64 (aheadI base.1 y.1)) ∧ w' = w) := fun y w => (refAhead_any base.1 y.1 w base.2 y.2).mono fun e w' h => ⟨h.1, h.2.symm⟩
      have HN := Lib.hid hn
      clear hH hll hn
      have hl3 : lf.length ≤ 300 := by
        have := HS.out.picked.1.length_eq
        simp at this
        omega
      go_wp2_with fail
      go_loopw [7, 8] (fun t7 t8 wx => minRel base.1 lf wo t7 t8 wx) (fun _ t8 _ => lf.length - (intOf t8).toNat)
      case atStart => exact ⟨0, 1, rfl, rfl, Nat.le_refl _, h0, h0, ⟨h0, min_start base.1 lf h0⟩, 0, rfl⟩
      case round =>
        obtain ⟨k, i, rfl, rfl, hi1, hi2, hk, hmin, q, hq⟩ := hrel
        have HQ := Lib.hid hq
        clear hq
        have HM := Lib.hid hmin
        clear hmin
        by_cases hlt : i < lf.length
        · have c1 : wr.cell? ⟨g, i, none⟩ = some (.int .u32 lf[i].1) := by rw [HQ.out]; exact HC.out i hlt
          have c2 : wr.cell? ⟨g, k, none⟩ = some (.int .u32 lf[k].1) := by rw [HQ.out]; exact HC.out k hk
          by_cases hless : aheadI base.1 lf[i].1 < aheadI base.1 lf[k].1
          · have hd : decide (aheadI base.1 lf[i].1 < aheadI base.1 lf[k].1) = true := by simpa using hless
            have HM2 : Hid (MinTo base.1 lf i (i + 1)) := ⟨hlt, min_less hk hlt HM.out.2 hless⟩
            clear hless
            generalize lf[i] = x at *
            generalize lf[k] = y at *
            go_wp2_with fail
            go_quiet (exact Calls.quiet_of_same (hA.out _ _))
            go_wp2_with fail
            go_roundw
            case rel => exact ⟨i, i + 1, rfl, by go_num, by omega, by omega, hlt, HM2.out, _, by rw [HQ.out]; exact World.drewN_drewN _ _ _⟩
            case measure => simp [intOf]; omega
          · have hd : decide (aheadI base.1 lf[i].1 < aheadI base.1 lf[k].1) = false := by simpa using hless
            have HM2 : Hid (MinTo base.1 lf k (i + 1)) := ⟨hk, min_not hk hlt HM.out.2 hless⟩
            clear hless
            generalize lf[i] = x at *
            generalize lf[k] = y at *
            go_wp2_with fail
            go_quiet (exact Calls.quiet_of_same (hA.out _ _))
            go_wp2_with fail
            go_roundw
            case rel => exact ⟨k, i + 1, rfl, by go_num, by omega, by omega, hk, HM2.out, _, by rw [HQ.out]; exact World.drewN_drewN _ _ _⟩
            case measure => simp [intOf]; omega
        · obtain rfl : i = lf.length := by omega
          have c2 : wr.cell? ⟨g, k, none⟩ = some (.int .u32 lf[k].1) := by rw [HQ.out]; exact HC.out k hk
          have HP2 := Lib.hid (HS.out.picked.step hk fun j hj => HM.out.2 j hj hj)
          clear HM
          have hO : Hid (wr.ownsRow W.heap.size 22 1 (.slice a6 o.length c6) o.length (o.map encU)) := by
            have := HS.out.out
            rw [HQ.out]
            exact this
          have hS5 : Hid (wr.ownsRow W.heap.size 22 1 (.slice (some ⟨g, 0, none⟩) lf.length c5) lf.length (lf.map encU)) := by
            have := HS.out.left
            rw [HQ.out]
            exact this
          have ho3 : o.length ≤ 300 := by
            have := HS.out.picked.1.length_eq
            simp at this
            omega
          generalize hy : lf[k] = y at c2 HP2
          clear hy
          have hbz : Hid (W.heap.size ≤ wr.heap.size) := by
            have := HS.out.below.size
            rw [HQ.out]
            exact this
          go_wp2_with (at_builtin; refine wpList_app _ rfl (.tmp 35) (.tmp 40) 29 29 rfl W.heap.size 22 i0 (.int .u32 0) 1 4 Try.underlying29 H1.out H2.out H3.out H4.out rfl (by decide) _ _ _ rfl (hO.out.alloc _) _ 1 [encU y] rfl (src_one _ Try.underlying29 _ _ rfl) (by unfold maxLen; omega) (by omega) (by have := hbz.out; simp; omega) ?_; intro a7 c7 w7 ho7 hg7 hn7 hl7; have HO7 := Lib.hid ho7; have HG7 := Lib.hid hg7; have HL7 := Lib.hid hl7; clear ho7 hg7 hn7 hl7)
          have hap := HS.out.apart
          have hle7 := HG7.out.size
          have hS7 : Hid (w7.ownsRow W.heap.size 22 1 (.slice (some ⟨g, 0, none⟩) lf.length c5) lf.length (lf.map encU)) := (hS5.out.alloc _).kept HG7.out (.inr fun e => hap g e.symm rfl)
          clear hap hle7
          have hn5 := HN.out
          have hmm : maxLen ≤ 9223372036854775807 := by decide
          obtain ⟨ad, had, hfrom0⟩ := slice_from g lf.length c5 (k + 1) (by omega) hn5
          have hfrom : ∀ w : World, (Instr.slice 29 (.slice (some ⟨g, 0, none⟩) lf.length c5) (some (.int .i64 ((k : Int) + 1))) none none).run Try.prog w = .ok (.slice (some ad) (lf.length - (k + 1)) (c5 - (k + 1))) w := hfrom0
          clear hfrom0
          have hto := fun w => slice_to w g lf.length c5 k (by omega)
          have HAD := Lib.hid had
          clear had
          have L7 := Sl.of_owns hS7.out (by simp; omega)
          have HT : Hid (∀ w', Below w7.heap.size w7 w' → Src Try.prog 1 29 (.slice (some ⟨g, 0, none⟩) k c5) k ((lf.take k).map encU) w') := fun w' hb => by
            have := (L7.below hb).cut (k := k) (c' := c5) (by simp; omega)
            have h2 := this.src Try.underlying29 (by rw [← List.map_take]; exact encU_one _)
            rw [← List.map_take] at h2
            simpa [show min k lf.length = k by omega] using h2
          have HD : Hid (∀ w', Below w7.heap.size w7 w' → ∀ (cc : Nat), Src Try.prog 1 29 (.slice (some ad) (lf.length - (k + 1)) cc) (lf.length - (k + 1)) ((lf.drop (k + 1)).map encU) w') := fun w' hb cc => by
            have := (L7.below hb).rest (k := k + 1) (ad := ad) (c' := cc) (by simp; omega) (fun h => by rw [HAD.out (by simpa using h)]; simp)
            have h2 := this.src Try.underlying29 (by rw [← List.map_drop]; exact encU_one _)
            rw [← List.map_drop] at h2
            simpa using h2
          clear L7
          have ki7 : IntKind.i64.wrap ((k : Int) + 1) = (k : Int) + 1 := IntWalk.i64_in _ (by omega)
          have tokA : True := trivial
          go_region_held3 (fun _ => True) (trivial)
            (first
              | (have _t := tokA; refine step_app (by rfl) (.tmp 42) (.tmp 45) 29 29 (by rfl) w7.heap.size 22 i0 (.int .u32 0) 1 4 Try.underlying29 H1.out H2.out H3.out H4.out rfl (by decide) _ 0 [] (by rfl) (ownsRow_empty _ _ _) _ k ((lf.take k).map encU) (by rfl) (HT.out _ (below_drew ((Below.refl _ w7).alloc (Nat.le_refl _) _))) (by unfold maxLen; omega) (by omega) (by simp) ?_; intro a8 c8 w8 ho8 hg8 hl8; obtain ⟨HO8, HB8⟩ := ref_mid2 w7 ho8 hg8; clear ho8 hg8 hl8 tokA _t)
              | (refine step_app (by rfl) (.tmp 46) (.tmp 50) 29 29 (by rfl) w7.heap.size 22 i0 (.int .u32 0) 1 4 Try.underlying29 H1.out H2.out H3.out H4.out rfl (by decide) _ _ _ (by rfl) HO8.out _ (lf.length - (k + 1)) ((lf.drop (k + 1)).map encU) (by rfl) (HD.out _ HB8.out _) (by unfold maxLen; omega) (by omega) HB8.out.size ?_; intro a9 c9 w9 ho9 hg9 hl9; have HB9 := Lib.hid (ref_below9 HO8.out HB8.out ⟨rfl, rfl, rfl, rfl⟩ hg9); have HO9 := Lib.hid ho9; clear ho9 hg9 hl9))
          have HO10 := Lib.hid (cast_zero HO9.out)
          clear hto hfrom ki7 HO9
          go_wp2_with fail
          go_roundw
          case rel => exact ref_round hk (by omega) (below_drewW HS.out.below HQ.out) HO7.out (ref_below7 hO.out hbz.out HG7.out) HO10.out HB9.out HP2.out
          case measure => simp [lenOf]; omega
    · have hb := HS.out.below
      have hp := HS.out.picked
      have hnil : lf = [] := List.eq_nil_of_length_eq_zero (by omega)
      have ho := HS.out.out
      have ho3 : o.length ≤ 300 := by
        have := hp.1.length_eq
        simp at this
        omega
      have HF : Hid (Sl wo (.slice a6 o.length c6) ((sortU base.1 l).map encU)) := by
        subst hnil
        rw [← hp.done]
        exact Sl.of_owns ho (by simp; omega)
      have HBB := Lib.hid hb
      clear hb hp hnil ho
      go_wp2_with fail
      go_ret
      exact ⟨_, rfl, HF.out, HBB.out⟩
end Go.Proofs.Ytdlcbejgadmdcaa
