/- AtomLasts: the walk. -/
import Derived.Test.YtdogfkjdoldpiaaB6
import Derived.Deep.QuietTactic
import Derived.BigQuiet
namespace Go.Proofs.Ytdogfkjdoldpiaa
open Go.RowKit Go.Maps

theorem infoInt : (Try.prog.info? 3).map (fun i => (i.zero, i.size, i.bytes)) = some (some (.int .i64 0), 1, 8) := by kernel_rfl
/-- the table, the numbers that were told, and what was there -/
structure LastSt (w : World) (p m : Nat) (L : List ByteArray) (av : Value) (xs : List Int) (wr : World) : Prop where
  tab : ∃ v, Tab wr p m v L ∧ ∀ i, tabIn p m v i → w.heap.size ≤ i
  row : wr.ownsRow w.heap.size 3 1 av xs.length (xs.map (Value.int .i64))
  below : Below w.heap.size w wr
theorem row_not_tab {W : World} {p m : Nat} {v : Value} {L : List ByteArray} (h : Tab W p m v L) {B n : Nat} {av : Value} {xs : List Value} (hr : W.ownsRow B 3 1 av n xs) : ∀ i, av.ownBlock = some i → ¬ tabIn p m v i := by
  intro i e ht
  rcases hr.2 with ⟨rfl, _⟩ | ⟨g, cap, cur, rfl, _, hg, _⟩
  · cases e
  · cases e
    rcases ht with h1 | h1 | h1
    · subst h1; rw [h.obj] at hg; cases hg
    · subst h1; obtain ⟨es, ck, hb, _⟩ := h.map; rw [hb] at hg; cases hg
    · rcases h.row.2 with ⟨rfl, _⟩ | ⟨g', cap', cur', rfl, _, hg', _⟩
      · cases h1
      · cases h1; rw [hg'] at hg; cases hg
theorem LastSt.put {w : World} {p m : Nat} {L : List ByteArray} {av : Value} {xs : List Int} {X : World} (h : LastSt w p m L av xs X) (s : ByteArray) (hs : s.size ≤ maxLen) :
    Calls Try.prog 13 #[.pointer (some ⟨p, 0, none⟩), .string s] X fun e Y =>
      e = .returned (.tuple #[.int .i64 (putL L s).2.1, .int .i64 (putL L s).2.2]) ∧ LastSt w p m (putL L s).1 av xs Y := by
  obtain ⟨v, hT, hf⟩ := h.tab
  refine (tput_any p m v L s X hT hs).mono fun e Y hp => ?_
  have hp2 := hp
  obtain ⟨v', he, hT', ht, hv⟩ := hp2
  obtain ⟨he2, hT2, hb2⟩ := from_put h.below hf hp
  obtain ⟨v2, q1, q2⟩ := hT2
  exact ⟨he, ⟨⟨v2, q1, q2⟩, row_same h.row (fun b e hb => ht.block b hb (row_not_tab hT h.row b e)), hb2⟩⟩
theorem LastSt.app {w : World} {p m : Nat} {L : List ByteArray} {av : Value} {xs : List Int} {X : World} (h : LastSt w p m L av xs X) (x : Int) {o : Obj} {a' : Option Addr} {c' : Nat} {Y : World}
    (ho : Y.ownsRow w.heap.size 3 1 (.slice a' (xs.length + 1) c') (xs.length + 1) (xs.map (Value.int .i64) ++ [.int .i64 x])) (hg : (X.alloc o).grownBy Y av.ownBlock) :
    LastSt w p m L (.slice a' (xs.length + 1) c') (xs ++ [x]) Y := by
  obtain ⟨v, hT, hf⟩ := h.tab
  have hb := h.below.alloc h.below.size o
  refine ⟨⟨v, (hT.below ((Below.refl _ X).alloc (Nat.le_refl _) o)).same (fun i hi hlt => hg.block i hlt (fun e => row_not_tab hT h.row i e.symm hi)), hf⟩, ?_, hb.grown hg hb.size (fun k e => ?_)⟩
  · simpa using ho
  · rcases h.row.2 with ⟨h1, _⟩ | ⟨g, _, _, h1, hB, _⟩
    · rw [h1] at e; cases e
    · rw [h1] at e; cases e; exact hB
theorem LastSt.later {w : World} {p m : Nat} {L : List ByteArray} {av : Value} {xs : List Int} {X Y : World} (h : LastSt w p m L av xs X) (hb : Below X.heap.size X Y) : LastSt w p m L av xs Y := by
  obtain ⟨v, hT, hf⟩ := h.tab
  exact ⟨⟨v, hT.below hb, hf⟩, row_same h.row (fun b e hlt => hb.block b hlt), h.below.trans (hb.mono h.below.size)⟩
theorem LastSt.slice {w : World} {p m : Nat} {L : List ByteArray} {av : Value} {xs : List Int} {X : World} (h : LastSt w p m L av xs X) : ∃ a c, av = .slice a xs.length c ∧ (0 < xs.length → ∃ g, a = some ⟨g, 0, none⟩ ∧ ∀ j, (hj : j < xs.length) → X.cell? ⟨g, j, none⟩ = some (.int .i64 xs[j])) := by
  rcases h.row.2 with ⟨h1, h2⟩ | ⟨g, cap, cur, h1, _⟩
  · exact ⟨none, 0, by rw [h1, h2], fun hp => by omega⟩
  · refine ⟨_, cap, h1, fun _ => ⟨g, rfl, fun j hj => ?_⟩⟩
    have hc := h.row.cells (g := g) (by rw [h1]; rfl) j (.int .i64 xs[j]) (by simp [hj])
    simpa [Addr.add_lit] using hc

theorem LastSt.cells {w : World} {p m : Nat} {L : List ByteArray} {a : Option Addr} {n c : Nat} {xs : List Int} {X : World} (h : LastSt w p m L (.slice a n c) xs X) (hp : 0 < xs.length) : ∃ g, a = some ⟨g, 0, none⟩ ∧ ∀ j, (hj : j < xs.length) → X.cell? ⟨g, j, none⟩ = some (.int .i64 xs[j]) := by
  obtain ⟨a', c', e, hA⟩ := h.slice
  cases e
  exact hA hp
theorem tname_from (B : Nat) (X : World) (p m : Nat) (l : List ByteArray) (s : ByteArray) (i : Nat) (h : TabFrom B X p m l) (hp : pos l s = some i) :
    Calls Try.prog 21 #[.pointer (some ⟨p, 0, none⟩), .int .i64 i] X (RW X (.tuple #[.string s, .int .i64 0])) := by
  obtain ⟨v, hT, _⟩ := h
  obtain ⟨hi, hs⟩ := pos_lt hp
  rw [List.getElem?_eq_getElem hi, Option.some.injEq] at hs
  rw [← hs]
  exact tname_in p m v l i X hT hi
def last1Rel (w : World) (p m : Nat) (l : List ByteArray) (t4 t5 : Value) (wr : World) : Prop :=
  ∃ k : Nat, k ≤ l.length ∧ k ≤ 200 ∧ t5 = .int .i64 k ∧ LastSt w p m (lst l k) t4 (codes l k) wr
set_option maxRecDepth 100000 in
set_option maxHeartbeats 4000000 in
theorem lasts_walk (v : Value) (l : List ByteArray) (w : World) (hv : Strs w v l ∧ ∀ s ∈ l, s.size ≤ maxLen) : Calls Try.prog 6 #[v] w (RB w (.bool true)) := by
  obtain ⟨hv, hsz⟩ := hv
  obtain ⟨i0, hi, hz0, hz1, hz2⟩ := info_parts infoInt
  have HV := Lib.hid hv
  have HSZ := Lib.hid hsz
  obtain ⟨a, c, rfl, hm, hc⟩ := hv
  have HC := Lib.hid hc
  clear hsz hc
  go_enter Try.func6, Try.ntmps6
  go_wp2_with fail
  refine (alive_any w).mono ?_
  rintro e w1 ⟨rfl, hb1⟩
  go_wp2_with fail
  refine (new_from w w1 hb1).mono ?_
  rintro e w2 ⟨rfl, hT2, hb2⟩
  have H2 := Lib.hid (show LastSt w (w1.heap.size + 1) w1.heap.size (lst l 0) (.slice none 0 0) (codes l 0) w2 from ⟨hT2, World.ownsRow_nil _ _ _ _, hb2⟩)
  clear hT2 hb2
  go_wp2_with fail
  go_loopw [4, 5] (fun t4 t5 wr => last1Rel w (w1.heap.size + 1) w1.heap.size l t4 t5 wr) (fun _ t5 _ => 200 - (intOf t5).toNat)
  case atStart => exact ⟨0, by omega, by omega, rfl, H2.out⟩
  case round =>
    obtain ⟨k, hk, hk2, rfl, hL⟩ := hrel
    have HL := Lib.hid hL
    clear hL
    by_cases hlt : k < l.length ∧ k < 200
    · obtain ⟨hlt, hlt2⟩ := hlt
      obtain ⟨b, off, rfl, hcell⟩ := HC.out (by omega)
      have hck := hcell k hlt
      have hckr := (HL.out.below.cell (p := ⟨b, off + k, none⟩) (cell_lt hck)).trans hck
      clear hck hcell
      go_wp2_with fail
      refine (HL.out.put l[k] (HSZ.out _ (List.getElem_mem hlt))).mono ?_
      rintro e w3 ⟨rfl, h3⟩
      rw [← lst_succ l hlt] at h3
      have H3 := Lib.hid h3
      clear h3
      have HC1 := Lib.hid (codes_succ l k)
      obtain ⟨x, hx⟩ : ∃ x, x = code l k := ⟨_, rfl⟩
      have hx' : x = codeP (putL (lst l k) l[k]) := by rw [hx]; unfold code; rw [List.getD_eq_getElem?_getD, List.getElem?_eq_getElem hlt, Option.getD_some]
      rw [← hx] at HC1
      generalize (putL (lst l k) l[k]) = pr at hx' ⊢
      obtain ⟨lp, r, er⟩ := pr
      unfold codeP at hx'
      simp only at hx' ⊢
      obtain ⟨a4, c4, rfl, _⟩ := H3.out.slice
      have HLn : Hid ((codes l k).length + 1 ≤ maxLen ∧ ((codes l k).length + 1) * 8 ≤ 140737488355328) := by rw [codes_length]; unfold maxLen Hid; omega
      clear hx
      by_cases he : er = 0
      · have heb : (er == 0) = true := by rw [beq_iff_eq]; exact he
        have hne : (er != 0) = false := by rw [he]; rfl
        rw [if_pos he] at hx'
        subst hx'
        clear he
        go_wp2_with (at_builtin; refine wpList_app _ rfl (.tmp 38) (.tmp 40) 47 47 rfl w.heap.size 3 i0 (.int .i64 0) 1 8 Try.underlying47 hi hz0 hz1 hz2 rfl (by decide) _ _ _ rfl (H3.out.row.alloc _) _ 1 [.int .i64 r] rfl (src_one _ Try.underlying47 _ _ rfl) HLn.out.1 HLn.out.2 (by have := H3.out.below.size; simp; omega) ?_; intro a5 c5 w5 ho5 hg5 _ _; have H5 := Lib.hid (H3.out.app r ho5 hg5); clear ho5 hg5)
        go_roundw
        case rel => exact ⟨k + 1, by omega, by omega, by go_num, by rw [HC1.out]; have := H5.out; exact this⟩
        case measure => simp [intOf]; omega
      · have heb : (er == 0) = false := by rw [beq_eq_false_iff_ne]; exact he
        have hne : (er != 0) = true := by rw [bne_iff_ne]; exact he
        rw [if_neg he] at hx'
        subst hx'
        clear he
        go_wp2_with (at_builtin; refine wpList_app _ rfl (.tmp 38) (.tmp 40) 47 47 rfl w.heap.size 3 i0 (.int .i64 0) 1 8 Try.underlying47 hi hz0 hz1 hz2 rfl (by decide) _ _ _ rfl (H3.out.row.alloc _) _ 1 [.int .i64 (-1)] rfl (src_one _ Try.underlying47 _ _ rfl) HLn.out.1 HLn.out.2 (by have := H3.out.below.size; simp; omega) ?_; intro a5 c5 w5 ho5 hg5 _ _; have H5 := Lib.hid (H3.out.app (-1) ho5 hg5); clear ho5 hg5)
        go_roundw
        case rel => exact ⟨k + 1, by omega, by omega, by go_num, by rw [HC1.out]; have := H5.out; exact this⟩
        case measure => simp [intOf]; omega
    · obtain ⟨K, hK⟩ : ∃ K, K = k := ⟨_, rfl⟩
      have hend : ¬ k < l.length ∨ (k < l.length ∧ ¬ k < 200) := by omega
      obtain ⟨a4, c4, rfl, hA⟩ := HL.out.slice
      have HA := Lib.hid hA
      have HLn := Lib.hid (codes_length l k)
      have HK1 := Lib.hid hk
      have HK2 := Lib.hid hk2
      clear hlt hA
      obtain ⟨W0, hW0⟩ : ∃ W0, W0 = wr := ⟨_, rfl⟩
      subst hW0
      rcases hend with h | ⟨h', h⟩
      all_goals
        clear hK K
        go_wp2_with fail
        go_loopw [8] (fun t8 wr => ∃ i : Nat, i ≤ k ∧ t8 = .int .i64 i ∧ LastSt w (w1.heap.size + 1) w1.heap.size (lst l k) (.slice a4 (codes l k).length c4) (codes l k) wr) (fun t8 _ => k - (intOf t8).toNat)
        case atStart => exact ⟨0, Nat.zero_le _, rfl, HL.out⟩
        case round =>
          obtain ⟨i, hik, rfl, hLi⟩ := hrel
          have HI := Lib.hid hLi
          clear hLi
          obtain ⟨W1, hW1⟩ : ∃ W1, W1 = wr := ⟨_, rfl⟩
          subst hW1
          by_cases hi : i < k
          · have hil : i < l.length := by omega
            have hcd : (codes l k)[i]? = some (code l i) := codes_get l hi
            have hci : i < (codes l k).length := by rw [codes_length]; exact hi
            obtain ⟨g, rfl, hcells⟩ := HI.out.cells (by omega)
            have hcel := hcells i hci
            rw [List.getElem?_eq_getElem hci, Option.some.injEq] at hcd
            rw [hcd] at hcel
            obtain ⟨b, off, rfl, hcell⟩ := HC.out (by omega)
            have hck := hcell i hil
            have hckr := (HI.out.below.cell (p := ⟨b, off + i, none⟩) (cell_lt hck)).trans hck
            have HNC := Lib.hid hcell
            clear hck hcell hcells hcd
            have hilt : (i : Int) < ((codes l k).length : Int) := by omega
            cases hn : nameB l[i] with
            | false =>
              have hcode := code_bad hil hn
              have HP := Lib.hid (lst_none HK1.out hn)
              rw [hcode] at hcel
              have HN := Lib.hid hn
              clear hcode hn
              go_wp2_with fail
              refine (tfind_from w.heap.size W1 _ _ _ l[i] HI.out.tab (HSZ.out _ (List.getElem_mem hil))).mono ?_
              rintro e w3 ⟨rfl, rfl⟩
              unfold findV
              rw [HP.out]
              go_wp2_with fail
              go_roundw
              case rel => exact ⟨i + 1, by omega, by go_num, HI.out⟩
              case measure => simp [intOf]; omega
            | true =>
              obtain ⟨cc, hcode, hp⟩ := lst_code l k HK1.out HK2.out i hil hi hn
              have HP := Lib.hid hp
              have HCO := Lib.hid hcode
              rw [hcode] at hcel
              have HN := Lib.hid hn
              clear hcode hn hp
              go_wp2_with fail
              refine (tfind_from w.heap.size W1 _ _ _ l[i] HI.out.tab (HSZ.out _ (List.getElem_mem hil))).mono ?_
              rintro e w3 ⟨rfl, rfl⟩
              unfold findV
              rw [HP.out]
              go_wp2_with fail
              refine (tname_from w.heap.size W1 _ _ _ l[i] cc HI.out.tab HP.out).mono ?_
              rintro e w3 ⟨rfl, rfl⟩
              have hss : (l[i].toList != l[i].toList) = false := by simp
              have hclt : (cc : Int) < ((lst l k).length : Int) := by have := (pos_lt HP.out).1; omega
              have hc0 : ¬ (cc : Int) < 0 := by omega
              go_wp2_with fail
              refine (tlen_from w.heap.size W1 _ _ _ HI.out.tab).mono ?_
              rintro e w3 ⟨rfl, rfl⟩
              clear hcel hckr
              go_wp2_with fail
              go_loopw [13] (fun t13 wr => ∃ j : Nat, j ≤ i ∧ t13 = .int .i64 j ∧ LastSt w (w1.heap.size + 1) w1.heap.size (lst l k) (.slice (some ⟨g, 0, none⟩) (codes l k).length c4) (codes l k) wr) (fun t13 _ => i - (intOf t13).toNat)
              case atStart => exact ⟨0, Nat.zero_le _, rfl, HI.out⟩
              case round =>
                obtain ⟨j, hji, rfl, hLj⟩ := hrel
                have HJ := Lib.hid hLj
                clear hLj
                by_cases hj : j < i
                · have hjl : j < l.length := by omega
                  have hcj : j < (codes l k).length := by rw [HLn.out]; omega
                  obtain ⟨g', hg', hcells⟩ := HJ.out.cells (by omega)
                  cases hg'
                  have hcelj := hcells j hcj
                  have hcdj : (codes l k)[j]? = some (code l j) := codes_get l (by omega)
                  rw [List.getElem?_eq_getElem hcj, Option.some.injEq] at hcdj
                  rw [hcdj] at hcelj
                  have hckj := (HJ.out.below.cell (p := ⟨b, off + j, none⟩) (cell_lt (HNC.out j hjl))).trans (HNC.out j hjl)
                  have hcki := (HJ.out.below.cell (p := ⟨b, off + i, none⟩) (cell_lt (HNC.out i hil))).trans (HNC.out i hil)
                  clear hcdj hcells
                  have hjlt : (j : Int) < ((codes l k).length : Int) := by omega
                  have hjlt2 : (j : Int) < (l.length : Int) := by omega
                  have hilt2 : (i : Int) < (l.length : Int) := by omega
                  cases hnj : nameB l[j] with
                  | false =>
                    have hcode := code_bad hjl hnj
                    rw [hcode] at hcelj
                    clear hcode hnj
                    go_wp2_with fail
                    go_quiet (fail)
                    go_wp2_with fail
                    go_roundw
                    case rel => exact ⟨j + 1, by omega, by go_num, HJ.out.later (below_drewN (Below.refl _ _) _)⟩
                    case measure => simp [intOf]; omega
                  | true =>
                    obtain ⟨cj, hcode, _⟩ := lst_code l k HK1.out HK2.out j hjl (by omega) hnj
                    have hiff := code_iff HK1.out HK2.out (a := j) (b := i) (by omega) hi hnj HN.out
                    rw [hcode, HCO.out] at hiff
                    rw [hcode] at hcelj
                    have hcj0 : decide ((0 : Int) ≤ (cj : Int)) = true := by simp
                    by_cases hs : l[j] = l[i]
                    · have hb1 := beq_bytes_true hs
                      have hb2 : ((cj : Int) == (cc : Int)) = true := by rw [beq_iff_eq]; exact hiff.2 hs
                      clear hcode hiff hs hnj
                      go_wp2_with fail
                      go_quiet (fail)
                      go_wp2_with fail
                      go_roundw
                      case rel => exact ⟨j + 1, by omega, by go_num, HJ.out.later (below_drewN (Below.refl _ _) _)⟩
                      case measure => simp [intOf]; omega
                    · have hb1 := beq_bytes_false hs
                      have hb2 : ((cj : Int) == (cc : Int)) = false := by rw [beq_eq_false_iff_ne]; exact fun e => hs (hiff.1 e)
                      clear hcode hiff hs hnj
                      go_wp2_with fail
                      go_quiet (fail)
                      go_wp2_with fail
                      go_roundw
                      case rel => exact ⟨j + 1, by omega, by go_num, HJ.out.later (below_drewN (Below.refl _ _) _)⟩
                      case measure => simp [intOf]; omega
                · go_wp2_with fail
                  go_roundw
                  case rel => exact ⟨i + 1, by omega, by go_num, HJ.out⟩
                  case measure => simp [intOf]; omega
          · have hge : ¬ (i : Int) < ((codes l k).length : Int) := by rw [HLn.out]; omega
            go_wp2_with fail
            go_ret
            exact ⟨rfl, HI.out.below⟩
end Go.Proofs.Ytdogfkjdoldpiaa
