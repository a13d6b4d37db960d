/- The law MatchMany: the walk. -/
import Derived.Test.YtlgpdpadaknnaaaD5
namespace Go.Proofs.Ytlgpdpadaknnaaa
open Go.RowKit Go.Maps
set_option maxRecDepth 100000
attribute [local go_sem] run_store_complex run_store_func' run_store_nilFunc'

theorem catV_succ (i : Nat) : cat ((varL (qsN (i + 1))).map lvC) = cat ((varL (qsN i)).map lvC) ++ (lfC 9 0 (nameOf i)).toList := by
  rw [qsN_succ]
  simp [varL, cat]
theorem catI_succ (i : Nat) : cat ((intL (qsN (i + 1))).map lvC) = cat ((intL (qsN i)).map lvC) ++ (lfC 1 i ⟨#[]⟩).toList := by
  rw [qsN_succ]
  simp [intL, cat]
theorem src_owns {P : Program} {w : World} {base e tx e' size n : Nat} {v : Value} {xs : List Value} (hk : P.underlying tx = some (.slice e')) (h : w.ownsRow base e size v n xs) (h1 : ∀ u ∈ xs, u.oneCell' = true) : Src P size tx v n xs w := by
  have hl := h.1
  rcases h.2 with ⟨rfl, h0⟩ | ⟨g, cap, cur, rfl, _⟩
  · subst h0
    have : xs = [] := List.eq_nil_of_length_eq_zero (by omega)
    subst this
    exact Src.ofNil _ hk 0
  · exact Src.ofSlice _ hk _ _ _ _ hl (h.cells (g := g) rfl) h1
theorem lv_one : ∀ l : List Lv, ∀ u ∈ cat (l.map lvC), u.oneCell' = true
  | [], u, h => by simp [cat] at h
  | a :: l, u, h => by
    have e : cat ((a :: l).map lvC) = (lvC a).toList ++ cat (l.map lvC) := rfl
    rw [e] at h
    rcases List.mem_append.1 h with h | h
    · exact (show ∀ u ∈ (lvC a).toList, u.oneCell' = true by simp [Value.oneCell']) u h
    · exact lv_one l u h
theorem bind_row (w : World) (b : Bd) : Row (w.alloc (.cells (bdC b) 36)) (fun x => x < (w.alloc (.cells (bdC b) 36)).heap.size) 36 10 (.slice (some ⟨w.heap.size, 0, none⟩) 1 1) 1 (bcat [b]) :=
  ⟨⟨rfl, .inr ⟨w.heap.size, 1, bdC b, rfl, Nat.zero_le _, heap_new w _, by omega, by unfold maxLen; omega, rfl, rfl⟩⟩, fun x e => by cases e; simp, fun h => by omega⟩
theorem owns_ten {w : World} {base : Nat} {v : Value} {kn : List Bd} (h : w.ownsRow base 36 10 v kn.length (bcat kn)) {i : Nat} (hi : i < kn.length) :
    ∃ g cap, v = .slice (some ⟨g, 0, none⟩) kn.length cap ∧ TenIn w g (i * 10) kn[i] := by
  have hr : Row w (fun _ => True) 36 10 v kn.length (bcat kn) := ⟨row_base h (Nat.zero_le _), fun _ _ => trivial, fun e => by omega⟩
  obtain ⟨g, cap, h1, _, h2⟩ := hr.ten hi
  exact ⟨g, cap, h1, h2⟩
theorem name_bytes (i : Nat) (hi : i ≤ 200) (w : World) : (convert 29 9 (.slice (some ⟨w.heap.size, 0, none⟩) 2 2)).run Try.prog (w.alloc (.cells #[.int .u8 (97 + (i : Int) % 26), .int .u8 (97 + (i : Int) / 26)] 5)) =
    .ok (.string ⟨#[UInt8.ofNat (97 + i % 26), UInt8.ofNat (97 + i / 26)]⟩) (w.alloc (.cells #[.int .u8 (97 + (i : Int) % 26), .int .u8 (97 + (i : Int) / 26)] 5)) := by
  rw [run_string_of (w.alloc _) Try.underlying29 Try.underlying5 Try.underlying9 ⟨w.heap.size, 0, none⟩ 2 2 [97 + (i : Int) % 26, 97 + (i : Int) / 26] rfl (fun j u hj => by
    simp only [Addr.add_lit, World.cell?, heap_new, Nat.zero_add]
    simpa using hj)]
  have e1 : (97 + (i : Int) % 26).toNat = 97 + i % 26 := by omega
  have e2 : (97 + (i : Int) / 26).toNat = 97 + i / 26 := by omega
  simp only [List.foldl_cons, List.foldl_nil, e1, e2]
  rfl
set_option maxHeartbeats 4000000 in
theorem many_walk (n : Nat) (kb : Bool) (hn : n ≤ 200) (w : World) : Calls Try.prog 3 #[.int .i64 n, .bool kb] w (RB w (.bool true)) := by
  have hn0 : (0 : Int) ≤ (n : Int) := by omega
  have hn2 : (n : Int) ≤ 200 := by omega
  obtain ⟨i0, hi, hz0, hz1, hz2⟩ := info_parts infoTm
  have X1 := Lib.hid hi
  have X2 := Lib.hid hz0
  have X3 := Lib.hid hz1
  have X4 := Lib.hid hz2
  clear hi hz0 hz1 hz2
  go_enter Try.func3, Try.ntmps3
  go_wp2_with fail
  refine (alive_any _).mono ?_
  rintro e w1 ⟨rfl, hb1⟩
  have HB1 := Lib.hid hb1
  clear hb1
  go_wp2_with fail
  go_loopw [5, 6, 7] (fun t5 t6 t7 wr => ∃ i : Nat, i ≤ n ∧ t7 = .int .i64 i ∧ wr.ownsRow w.heap.size 31 9 t5 i (cat ((varL (qsN i)).map lvC)) ∧ wr.ownsRow w.heap.size 31 9 t6 i (cat ((intL (qsN i)).map lvC)) ∧ (∀ b, t5.ownBlock = some b → t6.ownBlock ≠ some b) ∧ Below w.heap.size w wr) (fun _ _ t7 _ => n - (intOf t7).toNat)
  case atStart => exact ⟨0, by omega, rfl, World.ownsRow_nil _ _ _ _, World.ownsRow_nil _ _ _ _, (fun b e => by cases e), HB1.out⟩
  case round =>
    obtain ⟨i, hi, rfl, hV, hI, hd, hB⟩ := hrel
    have HV := Lib.hid hV
    have HI := Lib.hid hI
    have HD := Lib.hid hd
    have HB := Lib.hid hB
    obtain ⟨va, vc, rfl⟩ := row_slice hV
    obtain ⟨ia, ic, rfl⟩ := row_slice hI
    clear hV hI hd hB HB1
    by_cases hlt : i < n
    · have hlt' : (i : Int) < (n : Int) := by omega
      obtain ⟨tl, nm, hnm, htl, hcat, hcv⟩ : ∃ tl nm, nm = nameOf i ∧ ByteArray.size tl = 2 ∧ (⟨#[86]⟩ : ByteArray) ++ tl = nm ∧ (convert 29 9 (.slice (some ⟨wr.heap.size, 0, none⟩) 2 2)).run Try.prog (wr.alloc (.cells #[.int .u8 (97 + (i : Int) % 26), .int .u8 (97 + (i : Int) / 26)] 5)) = .ok (.string tl) (wr.alloc (.cells #[.int .u8 (97 + (i : Int) % 26), .int .u8 (97 + (i : Int) / 26)] 5)) := ⟨_, _, rfl, rfl, rfl, name_bytes i (by omega) wr⟩
      have HNm := Lib.hid hnm
      have HM1 := Lib.hid (show i + 1 ≤ maxLen by unfold maxLen; omega)
      have HM2 := Lib.hid (show (i + 1) * 120 ≤ 140737488355328 by omega)
      clear hnm
      go_wp2_with fail
      refine (v_any nm _).mono ?_
      rintro e wa ⟨rfl, hba⟩
      have HBa := Lib.hid ((HB.out.alloc HB.out.size _).trans (hba.mono (by have := HB.out.size; simp; omega)))
      have HVa := Lib.hid (row_below (HV.out.alloc _) hba)
      have HIa := Lib.hid (row_below (HI.out.alloc _) hba)
      clear hba hcv hcat htl HV HI HB
      go_upto_region 10 with (at_builtin; go_loud (refine wpList_app _ rfl (.tmp 27) (.tmp 40) 23 23 rfl w.heap.size 31 i0 (.agg zC) 9 120 Try.underlying23 X1.out X2.out X3.out X4.out rfl (by decide) _ _ _ rfl (HVa.out.alloc _) _ 1 (lfC 9 0 nm).toList rfl (src_new Try.underlying23 (lfC 9 0 nm) rfl 31 (by simp [Value.oneCell']) wa) HM1.out HM2.out (by have := HBa.out.size; simp; omega) ?_; intro a4 c4 wz ho4 hg4 hn4 hl4; have HZ := Lib.hid (two_step HBa.out HIa.out HVa.out HD.out hg4 hl4); have HVz := Lib.hid ho4; clear ho4 hg4 hl4 hn4))
      clear HVa HIa HBa HD
      go_wp2_with fail
      refine (int_any i _).mono ?_
      rintro e wc ⟨rfl, hbc⟩
      have HBc := Lib.hid (HZ.out.1.trans (hbc.mono HZ.out.1.size))
      have HVc := Lib.hid (row_below HVz.out hbc)
      have HIc := Lib.hid (row_below HZ.out.2.1 hbc)
      have HDc := Lib.hid (show ∀ b, (Value.slice ia i ic).ownBlock = some b → (Value.slice a4 (i + 1) c4).ownBlock ≠ some b from fun b e h => HZ.out.2.2 b h e)
      clear hbc HVz HZ
      go_wp2_with (at_builtin; go_loud (refine wpList_app _ rfl (.tmp 42) (.tmp 45) 23 23 rfl w.heap.size 31 i0 (.agg zC) 9 120 Try.underlying23 X1.out X2.out X3.out X4.out rfl (by decide) _ _ _ rfl (HIc.out.alloc _) _ 1 (lfC 1 i ⟨#[]⟩).toList rfl (src_new Try.underlying23 (lfC 1 i ⟨#[]⟩) rfl 31 (by simp [Value.oneCell']) wc) HM1.out HM2.out (by have := HBc.out.size; simp; omega) ?_; intro a5 c5 wy ho5 hg5 hn5 hl5; have HY := Lib.hid (two_step HBc.out HVc.out HIc.out HDc.out hg5 hl5); have HIy := Lib.hid ho5; clear ho5 hg5 hl5 hn5))
      go_round
      case rel =>
        refine ⟨i + 1, by omega, by go_num, ?_, ?_, fun b e h => HY.out.2.2 b h e, HY.out.1⟩
        · rw [catV_succ, ← HNm.out]
          exact HY.out.2.1
        · rw [catI_succ]
          exact HIy.out
      case measure => simp [intOf]; omega
    · obtain rfl : i = n := by omega
      have hvl : (varL (qsN i)).length = i := by rw [List.length_map, qsN_len]
      have hil : (intL (qsN i)).length = i := by rw [List.length_map, qsN_len]
      go_upto_if 47 with fail
      go_cut [8] from 47 to 50 (fun t8 wx => ∃ (ka : Option Addr) (kc : Nat), t8 = .slice ka (knB kb).length kc ∧ Row wx (fun b => b < wx.heap.size) 36 10 (.slice ka (knB kb).length kc) (knB kb).length (bcat (knB kb)) ∧ Below wr.heap.size wr wx)
      case first =>
        cases kb with
        | false =>
          go_wp2_with fail
          go_meet
          exact ⟨none, 0, rfl, Row.nil _ _ _ _, Below.refl _ _⟩
        | true =>
          go_wp2_with fail
          refine (atom_any sk _).mono ?_
          rintro e wa ⟨rfl, hba⟩
          have HBa := Lib.hid hba
          clear hba
          go_wp2_with fail
          go_meet
          exact ⟨some ⟨wa.heap.size, 0, none⟩, 1, rfl, bind_row wa ⟨sKn, 3, 0, sk⟩, HBa.out.alloc HBa.out.size _⟩
      obtain ⟨ka, kc, rfl, hkr, hbk⟩ := hcut
      have HKr := Lib.hid hkr
      have HBk := Lib.hid (HB.out.trans (hbk.mono HB.out.size))
      have HVk := Lib.hid (row_below HV.out hbk)
      have HIk := Lib.hid (row_below HI.out hbk)
      have hkl : (knB kb).length ≤ 1 := by cases kb <;> decide
      clear hkr hbk HV HI HB
      obtain ⟨wk, rfl⟩ : ∃ x, x = wc := ⟨_, rfl⟩
      go_wp2_with fail
      refine (list_any va i vc (varL (qsN i)) wk hvl (by omega) (src_owns Try.underlying23 (HVk.out.alloc _) (lv_one _))).mono ?_
      rintro e x1 ⟨a1, c1, rfl, hL1, hx1⟩
      have HL1 := Lib.hid hL1
      have HY1 := Lib.hid hx1
      clear hL1 hx1
      go_wp2_with fail
      refine (list_any ia i ic (intL (qsN i)) x1 hil (by omega) (src_owns Try.underlying23 ((row_below HIk.out HY1.out).alloc _) (lv_one _))).mono ?_
      rintro e x2 ⟨a2, c2, rfl, hL2, hx2⟩
      have HL2 := Lib.hid hL2
      have HY2 := Lib.hid hx2
      have HY3 := Lib.hid (HY1.out.trans (hx2.mono HY1.out.size))
      clear hL2 hx2
      go_wp2_with fail
      have hP2 : LRow x2 (fun b => b < x2.heap.size) (.slice a1 i c1) (varL (qsN i)) := by
        have h := Row.mono (HL1.out.keep (fun b _ hb => HY2.out.block b hb)) (F' := fun b => b < x2.heap.size) (fun b h _ => by have h1 := h.2; have := HY2.out.size; omega)
        rw [hvl] at h
        unfold LRow
        rw [hvl]
        exact h
      have hT2 : LRow x2 (fun b => b < x2.heap.size) (.slice a2 i c2) (intL (qsN i)) := by
        have h := Row.mono HL2.out (F' := fun b => b < x2.heap.size) (fun b h _ => h.2)
        rw [hil] at h
        unfold LRow
        rw [hil]
        exact h
      refine (match_ok 7 (.inr rfl) (qsN i) (by rw [qsN_len]; omega) (qsN_ok hn) (knB kb) (knB_binds kb) hkl (knB_new kb) (fun b => b < x2.heap.size) (.slice a1 i c1) (.slice a2 i c2) (.slice ka (knB kb).length kc) x2 hP2 hT2 (Row.mono (HKr.out.keep (fun b _ hb => HY3.out.block b hb)) (fun b h _ => by have h1 : b < wk.heap.size := h; have := HY3.out.size; omega)) (fun b h => h)).mono ?_
      clear hP2 hT2
      rintro e x3 ⟨hx3, hans⟩
      have HVx := Lib.hid (row_below HVk.out (HY3.out.trans (hx3.mono HY3.out.size)))
      have HBx := Lib.hid (HBk.out.trans ((HY3.out.trans (hx3.mono HY3.out.size)).mono HBk.out.size))
      clear hx3 HL1 HL2 HY1 HY2 HY3 HKr HVk HIk HBk HD hvl hil
      have HKl := Lib.hid (show ∃ l, l = knB kb from ⟨_, rfl⟩)
      rcases hans with ⟨B, hf, h64, rfl⟩ | ⟨B, v, hf, h64, rfl, ho⟩ | ⟨hf, rfl⟩
      · rw [qsN_fit hn] at hf
        cases hf
        rw [qsN_len] at h64
        have hd : ¬ ((i : Int) + ((knB kb).length : Int)) ≤ 64 := by omega
        have hd2 : (64 : Int) < (i : Int) + ((knB kb).length : Int) := by omega
        generalize (knB kb).length = kl at *
        have hk0 : (0 : Int) ≤ (kl : Int) := by omega
        have hk1 : (kl : Int) ≤ 1 := by omega
        go_wp2_with fail
        go_ret
        exact ⟨rfl, HBx.out⟩
      · rw [qsN_fit hn] at hf
        cases hf
        rw [qsN_len] at h64 ho
        obtain ⟨ra, rc, rfl⟩ := row_slice ho
        have HO := Lib.hid ho
        clear ho
        have hd2 : (i : Int) + ((knB kb).length : Int) ≤ 64 := by omega
        obtain ⟨kn, hkn⟩ : ∃ kn, knB kb = kn := ⟨_, rfl⟩
        rw [hkn] at hkl h64 hd2 HO ⊢
        have hk0 : (0 : Int) ≤ (kn.length : Int) := by omega
        have hk1 : (kn.length : Int) ≤ 1 := by omega
        go_wp2_with fail
        go_loopw [12] (fun t12 wx => ∃ j : Nat, j ≤ i ∧ t12 = .int .i64 j ∧ Below x3.heap.size x3 wx) (fun t12 _ => i - (intOf t12).toNat)
        case atStart => exact ⟨0, by omega, rfl, Below.refl _ _⟩
        case round =>
          obtain ⟨j, hj, rfl, hB⟩ := hrel
          have HBj := Lib.hid hB
          clear hB
          by_cases hlt2 : j < i
          · have hLL : (kn ++ (qsN i).map bdI).length = kn.length + i := by rw [List.length_append, List.length_map, qsN_len]
            have hO2 := HO.out
            rw [← hLL] at hO2
            obtain ⟨gr, rcap, hrv, h10⟩ := owns_ten hO2 (i := kn.length + j) (by omega)
            rw [hLL] at hrv
            cases hrv
            have hel : (kn ++ (qsN i).map bdI)[kn.length + j]'(by omega) = ⟨nameOf j, 1, (j : Int), ⟨#[]⟩⟩ := by
              rw [List.getElem_append_right (by omega)]
              simp [qsN]
            rw [hel] at h10
            have hgr : gr < x3.heap.size := cell_lt h10.1
            obtain ⟨c0, c1, c2, c3, c4, c5, c6, c7, c8, c9⟩ := h10.block (HBj.out.block gr hgr)
            simp only at c0 c1 c2 c4
            have hLR : LRow x3 (fun _ => True) (.slice va i vc) (varL (qsN i)) := by
              refine ⟨?_, fun _ _ => trivial, fun h => ?_⟩
              · have := row_base HVx.out (Nat.zero_le w.heap.size)
                rw [show (varL (qsN i)).length = i by rw [List.length_map, qsN_len]]
                exact this
              · rw [List.length_map, qsN_len] at h
                omega
            obtain ⟨gv, vcap, hvv, _, h9⟩ := hLR.nine (i := j) (by rw [List.length_map, qsN_len]; exact hlt2)
            rw [List.length_map, qsN_len] at hvv
            cases hvv
            have k3 : x3.cell? ⟨gv, j * 9 + 3, none⟩ = some (.string (nameOf j)) := by
              have := h9.2.2.2.1
              simpa [qsN] using this
            have hgv : gv < x3.heap.size := cell_lt k3
            have k3w := (HBj.out.cell (p := ⟨gv, j * 9 + 3, none⟩) hgv).trans k3
            obtain ⟨nm, hnm⟩ : ∃ nm, nameOf j = nm := ⟨_, rfl⟩
            rw [hnm] at c0 k3w
            have hj0 : (0 : Int) ≤ (j : Int) := by omega
            have hj1 : (j : Int) < (i : Int) := by omega
            clear h9 k3 hLR hel hO2 h10 hnm
            go_upto_region 23 with fail
            have hba := (Below.refl wr.heap.size wr).alloc (Nat.le_refl _) (.cells (bdC ⟨nm, 1, (j : Int), ⟨#[]⟩⟩) 36)
            have HBz := Lib.hid (HBj.out.trans (hba.mono HBj.out.size))
            have d0 : (wr.alloc (.cells (bdC ⟨nm, 1, (j : Int), ⟨#[]⟩⟩) 36)).cell? ⟨wr.heap.size, 0, none⟩ = some (.string nm) := by simp
            have d2 : (wr.alloc (.cells (bdC ⟨nm, 1, (j : Int), ⟨#[]⟩⟩) 36)).cell? ⟨wr.heap.size, 2, none⟩ = some (.int .i64 j) := by simp
            have d3 : (wr.alloc (.cells (bdC ⟨nm, 1, (j : Int), ⟨#[]⟩⟩) 36)).cell? ⟨gv, j * 9 + 3, none⟩ = some (.string nm) := (hba.cell (p := ⟨gv, j * 9 + 3, none⟩) (cell_lt k3w)).trans k3w
            clear hba k3w c0 c1 c2 c3 c4 c5 c6 c7 c8 c9 HBj
            generalize wr.alloc (.cells (bdC ⟨nm, 1, (j : Int), ⟨#[]⟩⟩) 36) = w7 at *
            generalize wr.heap.size = tt at *
            go_quiet (fail)
            go_wp2_with fail
            go_round
            case rel => exact ⟨j + 1, by omega, by go_num, ⟨HBz.out.os, HBz.out.tape, HBz.out.output, HBz.out.size, HBz.out.block⟩⟩
            case measure => simp [intOf]; omega
          · obtain rfl : j = i := by omega
            go_wp2_with fail
            go_ret
            exact ⟨rfl, HBx.out.trans (HBj.out.mono HBx.out.size)⟩
      · rw [qsN_fit hn] at hf
        cases hf
theorem many_out (n : Int) (kb : Bool) (hn : n < 0 ∨ 200 < n) (w : World) : Calls Try.prog 3 #[.int .i64 n, .bool kb] w (RB w (.bool true)) := by
  rcases hn with h | h
  all_goals
    go_enter Try.func3, Try.ntmps3
    go_wp2_with fail
    refine (alive_any _).mono ?_
    rintro e w1 ⟨rfl, hb1⟩
    have HB1 := Lib.hid hb1
    clear hb1
    go_wp2_with fail
    go_ret
    exact ⟨rfl, HB1.out⟩
theorem many_any (n : Int) (kb : Bool) (w : World) : Calls Try.prog 3 #[.int .i64 n, .bool kb] w (RB w (.bool true)) := by
  by_cases h : n < 0 ∨ 200 < n
  · exact many_out n kb h w
  · obtain ⟨k, rfl⟩ : ∃ k : Nat, n = k := ⟨n.toNat, by omega⟩
    exact many_walk k kb (by omega) w
end Go.Proofs.Ytlgpdpadaknnaaa
