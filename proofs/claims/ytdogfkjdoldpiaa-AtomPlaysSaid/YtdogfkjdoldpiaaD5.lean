/- AtomPlays: the walk. -/
import Derived.Test.YtdogfkjdoldpiaaD4
import Derived.Deep.CutRange
import Derived.Deep.QuietTactic
import Derived.BigQuiet
namespace Go.Proofs.Ytdogfkjdoldpiaa
open Go.RowKit Go.Maps

theorem bcells (wr : World) (o : OpV) : (wr.alloc (.cells #[.int .i64 o.kind, .int .i64 o.n, .string o.s] 40)).cell? ⟨wr.heap.size, 2, none⟩ = some (.string o.s) := by simp
theorem tmod_wf {n : Int} (_ : (Lit.int .i64 n).wf = true) : (Lit.int .i64 (n.tmod 4)).wf = true := by
  have h1 := Int.tmod_lt_of_pos n (show (0 : Int) < 4 by decide)
  have h2 : -4 < n.tmod 4 := by
    have := Int.tmod_lt_of_pos (-n) (show (0 : Int) < 4 by decide)
    rw [Int.neg_tmod] at this
    omega
  simp [Lit.wf, IntKind.min, IntKind.max, IntKind.signed, IntKind.bits]
  omega
def plRel (w : World) (len : Nat) (t3 t4 t5 : Value) (wr : World) : Prop :=
  ∃ i : Nat, i ≤ len ∧ i ≤ 300 ∧ t5 = .int .i64 i ∧ ∃ p m l al cl, t3 = .pointer (some ⟨p, 0, none⟩) ∧ t4 = .slice al (List.length l) cl ∧ Pl w p m l l t4 wr
set_option maxRecDepth 100000 in
set_option maxHeartbeats 4000000 in
theorem plays_walk (v : Value) (ops : List OpV) (w : World) (hv : Ops w v ops ∧ ∀ o ∈ ops, o.s.size ≤ maxLen ∧ (Lit.int .i64 o.kind).wf = true ∧ (Lit.int .i64 o.n).wf = true) :
    Calls Try.prog 5 #[v] w (RB w (.bool true)) := by
  obtain ⟨hv, hw⟩ := hv
  have HW := Lib.hid hw
  obtain ⟨a, c, rfl, hm, hc⟩ := hv
  have HC := Lib.hid hc
  clear hw hc
  go_enter Try.func5, Try.ntmps5
  go_wp2_with fail
  refine (alive_any w).mono ?_
  rintro e w1 ⟨rfl, hb1⟩
  go_wp2_with fail
  refine (Pl.new w w1 hb1).mono ?_
  rintro e w2 ⟨rfl, h2⟩
  have H2 := Lib.hid h2
  clear h2
  go_wp2_with fail
  go_loopw [3, 4, 5] (fun t3 t4 t5 wr => plRel w ops.length t3 t4 t5 wr) (fun _ _ t5 _ => 300 - (intOf t5).toNat)
  case atStart => exact ⟨0, by omega, by omega, rfl, _, _, [], none, 0, rfl, rfl, H2.out⟩
  case round =>
    obtain ⟨i, hi1, hi2, rfl, p, m, l, al, cl, rfl, rfl, hL⟩ := hrel
    have HL := Lib.hid hL
    clear hL
    by_cases hlt : i < ops.length ∧ i < 300
    · obtain ⟨hlt, hlt2⟩ := hlt
      obtain ⟨b, off, rfl, hcell⟩ := HC.out (by omega)
      obtain ⟨k0, k1, k2⟩ := hcell i hlt
      obtain ⟨ow, oK, oN⟩ := HW.out _ (List.getElem_mem hlt)
      generalize ops[i] = o at *
      have q0 := (HL.out.1.cell (cell_lt k0)).trans k0
      have q1 := (HL.out.1.cell (cell_lt k1)).trans k1
      have q2 := (HL.out.1.cell (cell_lt k2)).trans k2
      clear k0 k1 k2 hcell
      have hB1 : Below wr.heap.size wr (wr.alloc (.cells #[.int .i64 o.kind, .int .i64 o.n, .string o.s] 40)) := (Below.refl _ wr).alloc (Nat.le_refl _) _
      have HL1 := Lib.hid (HL.out.later hB1)
      have x1 := bcells wr o
      have hlen := HL.out.bound
      clear hB1
      by_cases hk0 : o.kind = 0
      · have e0 : (o.kind == 0) = true := by rw [beq_iff_eq]; exact hk0
        clear hk0
        go_wp2_with fail
        refine (HL1.out.ref o.s ow hlen).mono ?_
        rintro e w3 ⟨a3, c3, rfl, h3, hb3⟩
        have H3 := Lib.hid h3
        have y2 : w3.cell? ⟨wr.heap.size, 2, none⟩ = some (.string o.s) := (World.cell?_of_block (w := wr.alloc (.cells #[.int .i64 o.kind, .int .i64 o.n, .string o.s] 40)) (hb3.block _ (by simp))).trans x1
        clear h3 hb3
        go_wp2_with fail
        refine (H3.out.put o.s ow).mono ?_
        rintro e w4 ⟨rfl, h4⟩
        have H4 := Lib.hid h4
        clear h4
        generalize (putL l o.s) = pr at H4 ⊢
        obtain ⟨lp, r, er⟩ := pr
        simp only at H4 ⊢
        go_wp2_with fail
        refine (H4.out.len).mono ?_
        rintro e w9 ⟨rfl, rfl⟩
        go_wp2_with fail
        go_roundw
        case rel => exact ⟨i + 1, by omega, by omega, by go_num, _, _, _, _, _, rfl, rfl, H4.out⟩
        case measure => simp [intOf]; omega
      have e0 : (o.kind == 0) = false := by rw [beq_eq_false_iff_ne]; exact hk0
      clear hk0
      by_cases hk1 : o.kind = 1
      · have e1 : (o.kind == 1) = true := by rw [beq_iff_eq]; exact hk1
        clear hk1
        have hS := HL1.out.strs
        cases hpo : pos l o.s with
        | none =>
          have hpI : posI l o.s = -1 := by unfold posI; rw [hpo]
          have hfV : findV l o.s = .tuple #[.int .i64 0, .bool false] := by unfold findV; rw [hpo]; rfl
          have HS := Lib.hid hS
          have HP := Lib.hid hpI
          have HV := Lib.hid hfV
          clear hS hpI hfV hpo
          go_wp2_with fail
          refine (find_any _ l o.s _ HS.out).mono ?_
          rintro e w3 ⟨rfl, rfl⟩
          rw [HP.out]
          go_wp2_with fail
          refine (HL1.out.find o.s ow).mono ?_
          rintro e w3 ⟨rfl, rfl⟩
          rw [HV.out]
          go_wp2_with fail
          refine (HL1.out.len).mono ?_
          rintro e w9 ⟨rfl, rfl⟩
          go_wp2_with fail
          go_roundw
          case rel => exact ⟨i + 1, by omega, by omega, by go_num, _, _, _, _, _, rfl, rfl, HL1.out⟩
          case measure => simp [intOf]; omega
        | some j =>
          have hpI : posI l o.s = j := by unfold posI; rw [hpo]
          have hfV : findV l o.s = .tuple #[.int .i64 j, .bool true] := by unfold findV; rw [hpo]; rfl
          have HS := Lib.hid hS
          have HP := Lib.hid hpI
          have HV := Lib.hid hfV
          have hj0 : (0 : Int) ≤ (j : Int) := by omega
          clear hS hpI hfV hpo
          go_wp2_with fail
          refine (find_any _ l o.s _ HS.out).mono ?_
          rintro e w3 ⟨rfl, rfl⟩
          rw [HP.out]
          go_wp2_with fail
          refine (HL1.out.find o.s ow).mono ?_
          rintro e w3 ⟨rfl, rfl⟩
          rw [HV.out]
          go_wp2_with fail
          refine (HL1.out.len).mono ?_
          rintro e w9 ⟨rfl, rfl⟩
          go_wp2_with fail
          go_roundw
          case rel => exact ⟨i + 1, by omega, by omega, by go_num, _, _, _, _, _, rfl, rfl, HL1.out⟩
          case measure => simp [intOf]; omega
      have e1 : (o.kind == 1) = false := by rw [beq_eq_false_iff_ne]; exact hk1
      clear hk1
      by_cases hk2 : o.kind = 2
      · have e2 : (o.kind == 2) = true := by rw [beq_iff_eq]; exact hk2
        clear hk2
        by_cases hin : 0 ≤ o.n ∧ o.n < (l.length : Int)
        · obtain ⟨q, hq⟩ : ∃ q : Nat, o.n = q := ⟨o.n.toNat, by omega⟩
          have hql : q < l.length := by omega
          have hqz : (0 : Int) ≤ (q : Int) := by omega
          have hql2 : (q : Int) < (l.length : Int) := by omega
          obtain ⟨a5, c5, hv5, _, hc5⟩ := HL1.out.strs
          cases hv5
          obtain ⟨bb, off5, rfl, hcell5⟩ := hc5 (by omega)
          have hk5 := hcell5 q hql
          have hnm := Lib.hid (HL1.out.nameIn q hql)
          clear hcell5 hc5 hin
          rw [hq] at q1 oN x1 HL1 hk5 hnm
          generalize o.n = nn at *
          subst hq
          go_wp2_with fail
          refine hnm.out.mono ?_
          rintro e w3 ⟨rfl, rfl⟩
          go_wp2_with fail
          refine (HL1.out.len).mono ?_
          rintro e w9 ⟨rfl, rfl⟩
          go_wp2_with fail
          go_roundw
          case rel => exact ⟨i + 1, by omega, by omega, by go_num, _, _, _, _, _, rfl, rfl, HL1.out⟩
          case measure => simp [intOf]; omega
        · have hes : (ByteArray.empty.toList == (⟨#[]⟩ : ByteArray).toList) = true := beq_bytes_true rfl
          have hcase : o.n < 0 ∨ (0 ≤ o.n ∧ (l.length : Int) ≤ o.n) := by omega
          rcases hcase with hcase | hcase
          · have hnm := Lib.hid (HL1.out.nameOut o.n (by omega))
            have hneg : ¬ (0 : Int) ≤ o.n := by omega
            clear hin hcase
            go_wp2_with fail
            refine hnm.out.mono ?_
            rintro e w3 ⟨rfl, rfl⟩
            go_wp2_with fail
            refine (HL1.out.len).mono ?_
            rintro e w9 ⟨rfl, rfl⟩
            go_wp2_with fail
            go_roundw
            case rel => exact ⟨i + 1, by omega, by omega, by go_num, _, _, _, _, _, rfl, rfl, HL1.out⟩
            case measure => simp [intOf]; omega
          · have hnm := Lib.hid (HL1.out.nameOut o.n (by omega))
            have hneg : (0 : Int) ≤ o.n := by omega
            have hbig : ¬ o.n < (l.length : Int) := by omega
            clear hin hcase
            go_wp2_with fail
            refine hnm.out.mono ?_
            rintro e w3 ⟨rfl, rfl⟩
            go_wp2_with fail
            refine (HL1.out.len).mono ?_
            rintro e w9 ⟨rfl, rfl⟩
            go_wp2_with fail
            go_roundw
            case rel => exact ⟨i + 1, by omega, by omega, by go_num, _, _, _, _, _, rfl, rfl, HL1.out⟩
            case measure => simp [intOf]; omega
      have e2 : (o.kind == 2) = false := by rw [beq_eq_false_iff_ne]; exact hk2
      clear hk2
      by_cases hk3 : o.kind = 3
      · have e3 : (o.kind == 3) = true := by rw [beq_iff_eq]; exact hk3
        clear hk3
        go_wp2_with fail
        refine (HL1.out.all _ (tmod_wf oN)).mono ?_
        rintro e w3 ⟨rfl, h3⟩
        have H3 := Lib.hid h3
        clear h3
        go_wp2_with fail
        refine (H3.out.len).mono ?_
        rintro e w9 ⟨rfl, rfl⟩
        go_wp2_with fail
        go_roundw
        case rel => exact ⟨i + 1, by omega, by omega, by go_num, _, _, _, _, _, rfl, rfl, H3.out⟩
        case measure => simp [intOf]; omega
      have e3 : (o.kind == 3) = false := by rw [beq_eq_false_iff_ne]; exact hk3
      clear hk3
      by_cases hk4 : o.kind = 4
      · have e4 : (o.kind == 4) = true := by rw [beq_iff_eq]; exact hk4
        clear hk4
        go_wp2_with fail
        refine (HL1.out.copy).mono ?_
        rintro e w3 ⟨p', m', rfl, h3⟩
        have H3 := Lib.hid h3
        clear h3
        go_wp2_with fail
        refine (H3.out.put ⟨#[122, 122]⟩ (by decide)).mono ?_
        rintro e w4 ⟨rfl, h4⟩
        have H4 := Lib.hid h4
        clear h4
        go_wp2_with fail
        refine (H4.out.put ⟨#[122, 122, 122]⟩ (by decide)).mono ?_
        rintro e w5 ⟨rfl, h5⟩
        have H5 := Lib.hid h5.copied
        clear h5
        go_wp2_with fail
        refine (H5.out.len).mono ?_
        rintro e w9 ⟨rfl, rfl⟩
        go_wp2_with fail
        go_roundw
        case rel => exact ⟨i + 1, by omega, by omega, by go_num, _, _, _, _, _, rfl, rfl, H5.out⟩
        case measure => simp [intOf]; omega
      have e4 : (o.kind == 4) = false := by rw [beq_eq_false_iff_ne]; exact hk4
      clear hk4
      go_wp2_with fail
      refine (HL1.out.len).mono ?_
      rintro e w9 ⟨rfl, rfl⟩
      go_wp2_with fail
      go_roundw
      case rel => exact ⟨i + 1, by omega, by omega, by go_num, _, _, _, _, _, rfl, rfl, HL1.out⟩
      case measure => simp [intOf]; omega
    · have hend : ¬ i < ops.length ∨ (i < ops.length ∧ ¬ i < 300) := by omega
      clear hlt
      have hw1 : (Lit.int .i64 1).wf = true := by decide
      rcases hend with h | ⟨h', h⟩
      all_goals
        go_wp2_with fail
        refine (HL.out.all 1 hw1).mono ?_
        rintro e w3 ⟨rfl, h3⟩
        have H3 := Lib.hid h3.1
        clear h3
        go_wp2_with fail
        go_ret
        exact ⟨rfl, H3.out⟩
end Go.Proofs.Ytdogfkjdoldpiaa
