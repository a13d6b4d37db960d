/- TiesOnce, walked. -/
import Derived.Test.YtkpeelhanmekdaaD8
import Derived.IntWalk
namespace Go.Proofs.Ytkpeelhanmekdaa
set_option linter.unusedVariables false
set_option linter.unusedSimpArgs false
set_option linter.constructorNameAsVariable false
open Go.Shelf Go.RowKit Go.Lib Go.Proofs
set_option maxRecDepth 100000
attribute [local go_sem] run_store_complex

def law1 (w : World) (p ml mm mt G k : Nat) (t11 : Value) (wr : World) : Prop :=
  ∃ i : Nat, i ≤ k ∧ t11 = .int .i64 i ∧ LawAt w p ml mm mt G (3 * k) (below (3 * i)) ((List.range i).map idL) ((List.range i).map prM) ((List.range i).map prT) wr
def law2 (w : World) (p ml mm mt G k len : Nat) (t15 : Value) (wr : World) : Prop :=
  ∃ i : Nat, i ≤ len ∧ i ≤ 300 ∧ t15 = .int .i64 i ∧ ∃ lf, LawAt w p ml mm mt G (3 * k) lf (mL lf k) (mM lf k) (mT lf k) wr
theorem Sl.cellI {W : World} {a : Option Addr} {n c : Nat} {l : List Int} (h : Sl W (.slice a n c) (l.map (Value.int .u8))) {k : Nat} (hk : k < l.length) : ∃ b off, a = some ⟨b, off, none⟩ ∧ ∀ j, (hj : j < l.length) → W.cell? ⟨b, off + j, none⟩ = some (.int .u8 l[j]) := by
  obtain ⟨a', c', e, hm, hc⟩ := h
  cases e
  obtain ⟨b, off, rfl, hcell⟩ := hc (by simp; omega)
  refine ⟨b, off, rfl, fun j hj => ?_⟩
  have := hcell j (by simpa using hj)
  simpa using this
set_option maxHeartbeats 8000000 in
theorem once_of (hS : SortTold) (hN : NoneTold) (n lost : Nat) (hn : n < 256) (hlo : lost < 256) (v : Value) (zs : List Int) (w : World) (hv : Sl w v (zs.map (Value.int .u8))) (hz : ∀ z ∈ zs, 0 ≤ z ∧ z ≤ 255) :
    Calls Try.prog 3 #[.int .u8 (n : Int), v, .int .u8 (lost : Int)] w (RB w (.bool true)) := by
  have HSo := Lib.hid hS
  have HNo := Lib.hid hN
  have HV := Lib.hid hv
  have HZ := Lib.hid hz
  have hll : (zs.map (Value.int .u8)).length = zs.length := by simp
  obtain ⟨a, c, rfl, hm, -⟩ := hv
  rw [hll] at HV hm ⊢
  clear hll hz hS hN
  go_enter Try.func3, Try.ntmps3
  go_wp2_with fail
  refine (alive_any HSo.out HNo.out w).mono ?_
  rintro e w1 ⟨rfl, hb1⟩
  have HB1 := Lib.hid hb1
  clear hb1
  go_wp2_with fail
  refine (id_any 1 1 _).mono ?_
  rintro e w2 ⟨rfl, hb2⟩
  have HB2 := Lib.hid (HB1.out.trans (hb2.mono HB1.out.size))
  clear hb2 HB1
  go_wp2_with fail
  refine (new_any ⟨1, 1, 1⟩ (idok 1 1 (by decide) (by decide) (by decide) (by decide)) _).mono ?_
  rintro e w3 ⟨p, ml, mm, mt, rfl, ht, hb, hp, hmaps⟩
  have HT3 := Lib.hid ht
  have HB3 := Lib.hid (HB2.out.trans (hb.mono HB2.out.size))
  have hp3 : w.heap.size ≤ p := Nat.le_trans HB2.out.size hp
  have HMp := Lib.hid (fun b e => Nat.le_trans HB2.out.size (hmaps b e))
  clear ht hb hp hmaps HB2
  obtain ⟨k, hk⟩ : ∃ k : Nat, (n : Int) % 80 = k := ⟨n % 80, by omega⟩
  have hk80 : k < 80 := by omega
  have hkk := Lib.hid hk
  obtain ⟨i0, hi, hz0, hz1, hz2⟩ := info_parts infoB
  obtain ⟨wm, hrun, hown, hgrow⟩ := run_makeSlice_full (P := Try.prog) w3 w.heap.size 33 4 i0 (.bool false) 1 Try.underlying33 hi hz0 hz1 .i64 .i64 (3 * k) (by omega) (by rw [hz2]; omega) (by unfold maxLen; omega) HB3.out.size
  have HL0 : Hid (LawAt w p ml mm mt w3.heap.size (3 * k) (below 0) [] [] [] wm) := by
    have hbm := (Turn.of_grownBy hgrow).below (B := w3.heap.size) (Nat.le_refl _) (fun i e => by cases e)
    refine ⟨HB3.out.trans (hbm.mono HB3.out.size), ?_, HT3.out.below hbm, HMp.out, fun e => ?_, fun e => ?_⟩
    · have e1 : (madeCells (Value.bool false).cells (3 * k * 1)).toList = bits (below 0) (3 * k) := by
        rw [Nat.mul_one, show (Value.bool false).cells = #[.bool false] from rfl, toList_madeCells_one, bits_none]
      rw [← e1]; exact hown
    · rcases e with e | e | e
      · have := HT3.out.links.lt; omega
      · have := HT3.out.mine.lt; omega
      · have := HT3.out.theirs.lt; omega
    · have := HT3.out.lt; omega
  rw [show ((3 * k : Nat) : Int) = 3 * (k : Int) from by omega] at hrun
  clear hi hz0 hz1 hz2 hown hgrow
  generalize w3.heap.size = G at *
  go_wp2_with fail
  clear hk hrun HB3 HT3
  go_loopw [11] (fun t11 wr => law1 w p ml mm mt G k t11 wr) (fun t11 _ => k - (intOf t11).toNat)
  case atStart => exact ⟨0, Nat.zero_le _, rfl, HL0.out⟩
  case round =>
    obtain ⟨i, hi, rfl, hL⟩ := hrel
    have HL := Lib.hid hL
    clear hL
    by_cases hlt : i < k
    · have hi0 : (0 : Int) ≤ (i : Int) := by omega
      have hi80 : (i : Int) < 80 := by omega
      go_wp2_with fail
      refine (id_as (idL i) rfl _ _ (by show _ = ((2 + i % 3 : Nat) : Int); omega) (by show _ = ((10 + i : Nat) : Int); omega) _).mono ?_
      rintro e w4 ⟨rfl, hb⟩
      have HL4 := Lib.hid (HL.out.quiet hb)
      clear hb HL
      go_wp2_with fail
      refine (link_any (idL i) ⟨1, 1, 1⟩ (okL i (by omega)) p ml mm mt _ _ _ _ HL4.out.ties (by simp; omega) (by show 2 + i % 3 ≠ 1; omega) (fresh (fun _ _ => idL_inj) i)).mono ?_
      rintro e w5 ⟨rfl, ht, hb⟩
      rw [range_snoc] at ht
      have HL5 := Lib.hid (HL4.out.turned ht hb)
      clear ht hb HL4
      go_wp2_with fail
      refine (id_as (idW i) rfl _ _ (by show _ = ((1 : Nat) : Int); omega) (by show _ = ((100 + i : Nat) : Int); omega) _).mono ?_
      rintro e w6 ⟨rfl, hb⟩
      have HL6 := Lib.hid (HL5.out.quiet hb)
      clear hb HL5
      go_wp2_with fail
      refine (id_as (idL i) rfl _ _ (by show _ = ((2 + i % 3 : Nat) : Int); omega) (by show _ = ((10 + i : Nat) : Int); omega) _).mono ?_
      rintro e w7 ⟨rfl, hb⟩
      have HL7 := Lib.hid (HL6.out.quiet hb)
      clear hb HL6
      go_wp2_with fail
      refine (watch_any (idW i) (idL i) ⟨1, 1, 1⟩ (okW i (by omega)) (okL i (by omega)) p ml mm mt _ _ _ _ HL7.out.ties (by simp; omega) (by rw [List.map_map]; exact fresh (f := idW) (fun _ _ => idW_inj) i)).mono ?_
      rintro e w8 ⟨rfl, ht, hb⟩
      rw [show (idW i, idL i) = prM i from rfl, range_snoc] at ht
      have HL8 := Lib.hid (HL7.out.turned ht hb)
      clear ht hb HL7
      go_wp2_with fail
      refine (id_as (idT i) rfl _ _ (by show _ = ((2 + i % 3 : Nat) : Int); omega) (by show _ = ((200 + i : Nat) : Int); omega) _).mono ?_
      rintro e w9 ⟨rfl, hb⟩
      have HL9 := Lib.hid (HL8.out.quiet hb)
      clear hb HL8
      go_wp2_with fail
      refine (id_as (idL i) rfl _ _ (by show _ = ((2 + i % 3 : Nat) : Int); omega) (by show _ = ((10 + i : Nat) : Int); omega) _).mono ?_
      rintro e w10 ⟨rfl, hb⟩
      have HL10 := Lib.hid (HL9.out.quiet hb)
      clear hb HL9
      go_wp2_with fail
      refine (watched_any (idT i) (idL i) ⟨1, 1, 1⟩ (okT i (by omega)) (okL i (by omega)) p ml mm mt _ _ _ _ HL10.out.ties (by simp; omega) (by rw [List.map_map]; exact fresh (f := idT) (fun _ _ => idT_inj) i)).mono ?_
      rintro e w11 ⟨rfl, ht, hb⟩
      rw [show (idT i, idL i) = prT i from rfl, range_snoc] at ht
      have HL11 := Lib.hid (HL10.out.turned ht hb)
      clear ht hb HL10
      go_upto_region 14 with fail
      have q0 : 3 * (i : Int) < 3 * (k : Int) := by omega
      have q1 : 3 * (i : Int) + 1 < 3 * (k : Int) := by omega
      have q2 : 3 * (i : Int) + 2 < 3 * (k : Int) := by omega
      have d0 := HL11.out.cell (x := 3 * i) (by omega)
      have d1 := HL11.out.cell (x := 3 * i + 1) (by omega)
      have d2 := HL11.out.cell (x := 3 * i + 2) (by omega)
      have f0 := HL11.out.frozen (3 * i)
      have f1 := HL11.out.frozen (3 * i + 1)
      have f2 := HL11.out.frozen (3 * i + 2)
      go_wp2_with fail
      clear d0 d1 d2 f0 f1 f2
      have HLs := Lib.hid (((HL11.out.set (3 * i) true (bits_on (by omega))).set (3 * i + 1) true (bits_on (by omega))).set (3 * i + 2) true (bits_on (by omega)))
      go_roundw
      case rel => exact ⟨i + 1, by omega, by go_num, HLs.out⟩
      case measure => simp [intOf]; omega
    · obtain rfl : i = k := by omega
      have HL2 : Hid (LawAt w p ml mm mt G (3 * i) (below (3 * i)) (mL (below (3 * i)) i) (mM (below (3 * i)) i) (mT (below (3 * i)) i) wr) := by
        have h0 := HL.out
        have e0 : ∀ (d : Nat), d < 3 → ∀ i', i' < i → below (3 * i) (3 * i' + d) = true := fun d hd i' hi' => decide_eq_true (by omega)
        rw [← sel_all i (fun i' => below (3 * i) (3 * i')) idL (e0 0 (by decide)), ← sel_all i (fun i' => below (3 * i) (3 * i' + 1)) prM (e0 1 (by decide)), ← sel_all i (fun i' => below (3 * i) (3 * i' + 2)) prT (e0 2 (by decide))] at h0
        exact h0
      clear HL hlt hi
      obtain ⟨k, rfl⟩ : ∃ k : Nat, k = i := ⟨_, rfl⟩
      obtain ⟨wl, rfl⟩ : ∃ wl : World, wl = wr := ⟨_, rfl⟩
      go_wp2_with fail
      go_loopw [15] (fun t15 wr => law2 w p ml mm mt G k zs.length t15 wr) (fun t15 _ => 300 - (intOf t15).toNat)
      case atStart => exact ⟨0, Nat.zero_le _, Nat.zero_le _, rfl, _, HL2.out⟩
      case round =>
        obtain ⟨i, hi1, hi2, rfl, lf, hL⟩ := hrel
        have HL := Lib.hid hL
        clear hL
        by_cases hlt : i < zs.length ∧ 0 < k ∧ i < 300
        · obtain ⟨hlt, hk0, hlt3⟩ := hlt
          obtain ⟨bz, oz, rfl, hcz⟩ := HV.out.cellI hlt
          have hzr := HZ.out _ (List.getElem_mem hlt)
          have HCZ := Lib.hid (hcz i hlt)
          clear hcz
          generalize zs[i] = z at *
          obtain ⟨z0, z1⟩ := hzr
          obtain ⟨zn, rfl⟩ : ∃ zn : Nat, z = (zn : Int) := ⟨z.toNat, by omega⟩
          have hd300 : decide ((i : Int) < 300) = true := by simp; omega
          have hdk0 : decide ((0 : Int) < (k : Int)) = true := by simp; omega
          have hkne : ¬ (3 * (k : Int)) = 0 := by omega
          have cz : wr.cell? ⟨bz, oz + i, none⟩ = some (.int .u8 (zn : Int)) := (HL.out.below.cell (p := ⟨bz, oz + i, none⟩) (cell_lt HCZ.out)).trans HCZ.out
          have hxl : zn % (3 * k) < 3 * k := Nat.mod_lt _ (by omega)
          have hxe : (zn : Int) % (3 * (k : Int)) = ((zn % (3 * k) : Nat) : Int) := by rw [Int.natCast_emod]; rfl
          generalize zn % (3 * k) = x at *
          have hzw : IntKind.i64.wrap (3 * (k : Int)) = 3 * (k : Int) := IntWalk.i64_in _ (by omega)
          obtain ⟨j, hj⟩ : ∃ j, x = 3 * j ∨ x = 3 * j + 1 ∨ x = 3 * j + 2 := ⟨x / 3, by omega⟩
          rcases hj with rfl | rfl | rfl
          · have hx := hxe
            have hjx := hxl
            clear hxe hxl
            have hx : (zn : Int) % (3 * (k : Int)) = 3 * (j : Int) := hx
            have hq : (3 * (j : Int)) / 3 = (j : Int) := by omega
            have hr : (3 * (j : Int)) % 3 = 0 := by omega
            have hjx : 3 * j < 3 * k := hjx
            have hjk : j < k := by omega
            have p0 : 3 * (j : Int) < 3 * (k : Int) := by omega
            have p00 : (0 : Int) ≤ 3 * (j : Int) := by omega
            go_wp2_with fail
            refine (id_as (idL j) rfl _ _ (by show _ = ((2 + j % 3 : Nat) : Int); omega) (by show _ = ((10 + j : Nat) : Int); omega) _).mono ?_
            rintro e w4 ⟨rfl, hb⟩
            have HL4 := Lib.hid (HL.out.quiet hb)
            clear hb HL cz
            go_wp2_with fail
            refine (unlink_any (idL j) ⟨1, 1, 1⟩ (okL j (by omega)) p ml mm mt _ _ _ _ HL4.out.ties).mono ?_
            rintro e w5 ⟨rfl, ht, hb⟩
            rw [codeL_sel (fun _ _ => idL_inj) hjk]
            rw [dropL_sel (fun _ _ => idL_inj), ← off_L0] at ht
            have HL5 := Lib.hid (HL4.out.turned ht hb)
            clear ht hb HL4
            have HF := Lib.hid ((HL5.out.set (3 * j) false (bits_off lf (3 * k) (3 * j))))
            have d0 := HL5.out.cell (x := 3 * j) hjx
            have f0 := HL5.out.frozen (3 * j)
            have HF2 : Hid (LawAt w p ml mm mt G (3 * k) (off lf (3 * j)) (mL (off lf (3 * j)) k) (mM (off lf (3 * j)) k) (mT (off lf (3 * j)) k) (w5.setCell ⟨G, 3 * j, none⟩ (.bool false))) := Lib.hid (by
              have := HF.out
              rwa [← off_M0 lf k j, ← off_T0 lf k j] at this)
            clear HF HL5
            obtain ⟨b, hb⟩ : ∃ b, lf (3 * j) = b := ⟨_, rfl⟩
            rw [hb] at d0 ⊢
            clear hb
            cases b with
            | true =>
              go_wp2_with fail
              go_roundw
              case rel => exact ⟨i + 1, by omega, by omega, by go_num, _, HF2.out⟩
              case measure => simp [intOf]; omega
            | false =>
              go_wp2_with fail
              go_roundw
              case rel => exact ⟨i + 1, by omega, by omega, by go_num, _, HF2.out⟩
              case measure => simp [intOf]; omega
          · have hx := hxe
            have hjx := hxl
            clear hxe hxl
            have hx : (zn : Int) % (3 * (k : Int)) = 3 * (j : Int) + 1 := hx
            have hq : (3 * (j : Int) + 1) / 3 = (j : Int) := by omega
            have hr : (3 * (j : Int) + 1) % 3 = 1 := by omega
            have hjx : 3 * j + 1 < 3 * k := hjx
            have hjk : j < k := by omega
            have p0 : 3 * (j : Int) + 1 < 3 * (k : Int) := by omega
            have p00 : (0 : Int) ≤ 3 * (j : Int) + 1 := by omega
            go_wp2_with fail
            refine (id_as (idW j) rfl _ _ (by show _ = ((1 : Nat) : Int); omega) (by show _ = ((100 + j : Nat) : Int); omega) _).mono ?_
            rintro e w4 ⟨rfl, hb⟩
            have HL4 := Lib.hid (HL.out.quiet hb)
            clear hb HL cz
            go_wp2_with fail
            refine (unwatch_any (idW j) ⟨1, 1, 1⟩ (okW j (by omega)) p ml mm mt _ _ _ _ HL4.out.ties).mono ?_
            rintro e w5 ⟨⟨vv, rfl⟩, ht, hb⟩
            rw [sel_map, codeL_sel (f := idW) (fun _ _ => idW_inj) hjk]
            rw [dropM_sel (f := idW) (fun _ _ => idW_inj), ← off_M1] at ht
            have HL5 := Lib.hid (HL4.out.turned ht hb)
            clear ht hb HL4
            have HF := Lib.hid ((HL5.out.set (3 * j + 1) false (bits_off lf (3 * k) (3 * j + 1))))
            have d0 := HL5.out.cell (x := 3 * j + 1) hjx
            have f0 := HL5.out.frozen (3 * j + 1)
            have HF2 : Hid (LawAt w p ml mm mt G (3 * k) (off lf (3 * j + 1)) (mL (off lf (3 * j + 1)) k) (mM (off lf (3 * j + 1)) k) (mT (off lf (3 * j + 1)) k) (w5.setCell ⟨G, 3 * j + 1, none⟩ (.bool false))) := Lib.hid (by
              have := HF.out
              rwa [← off_L1 lf k j, ← off_T1 lf k j] at this)
            clear HF HL5
            obtain ⟨b, hb⟩ : ∃ b, lf (3 * j + 1) = b := ⟨_, rfl⟩
            rw [hb] at d0 ⊢
            clear hb
            cases b with
            | true =>
              go_wp2_with fail
              go_roundw
              case rel => exact ⟨i + 1, by omega, by omega, by go_num, _, HF2.out⟩
              case measure => simp [intOf]; omega
            | false =>
              go_wp2_with fail
              go_roundw
              case rel => exact ⟨i + 1, by omega, by omega, by go_num, _, HF2.out⟩
              case measure => simp [intOf]; omega
          · have hx := hxe
            have hjx := hxl
            clear hxe hxl
            have hx : (zn : Int) % (3 * (k : Int)) = 3 * (j : Int) + 2 := hx
            have hq : (3 * (j : Int) + 2) / 3 = (j : Int) := by omega
            have hr : (3 * (j : Int) + 2) % 3 = 2 := by omega
            have hjx : 3 * j + 2 < 3 * k := hjx
            have hjk : j < k := by omega
            have p0 : 3 * (j : Int) + 2 < 3 * (k : Int) := by omega
            have p00 : (0 : Int) ≤ 3 * (j : Int) + 2 := by omega
            go_wp2_with fail
            refine (id_as (idT j) rfl _ _ (by show _ = ((2 + j % 3 : Nat) : Int); omega) (by show _ = ((200 + j : Nat) : Int); omega) _).mono ?_
            rintro e w3 ⟨rfl, hb⟩
            have HL3 := Lib.hid (HL.out.quiet hb)
            clear hb HL cz
            go_wp2_with fail
            refine (id_as (idL j) rfl _ _ (by show _ = ((2 + j % 3 : Nat) : Int); omega) (by show _ = ((10 + j : Nat) : Int); omega) _).mono ?_
            rintro e w4 ⟨rfl, hb⟩
            have HL4 := Lib.hid (HL3.out.quiet hb)
            clear hb HL3
            go_wp2_with fail
            refine (unwatched_any (idT j) (idL j) ⟨1, 1, 1⟩ (okT j (by omega)) p ml mm mt _ _ _ _ HL4.out.ties (fun q hq e => by
              obtain ⟨i', _, _, rfl⟩ := sel_mem hq
              rw [idT_inj (i := i') (j := j) e])).mono ?_
            rintro e w5 ⟨rfl, ht, hb⟩
            rw [sel_map, codeL_sel (f := idT) (fun _ _ => idT_inj) hjk]
            rw [dropM_sel (f := idT) (fun _ _ => idT_inj), ← off_T2] at ht
            have HL5 := Lib.hid (HL4.out.turned ht hb)
            clear ht hb HL4
            have HF := Lib.hid ((HL5.out.set (3 * j + 2) false (bits_off lf (3 * k) (3 * j + 2))))
            have d0 := HL5.out.cell (x := 3 * j + 2) hjx
            have f0 := HL5.out.frozen (3 * j + 2)
            have HF2 : Hid (LawAt w p ml mm mt G (3 * k) (off lf (3 * j + 2)) (mL (off lf (3 * j + 2)) k) (mM (off lf (3 * j + 2)) k) (mT (off lf (3 * j + 2)) k) (w5.setCell ⟨G, 3 * j + 2, none⟩ (.bool false))) := Lib.hid (by
              have := HF.out
              rwa [← off_L2 lf k j, ← off_M2 lf k j] at this)
            clear HF HL5
            obtain ⟨b, hb⟩ : ∃ b, lf (3 * j + 2) = b := ⟨_, rfl⟩
            rw [hb] at d0 ⊢
            clear hb
            cases b with
            | true =>
              go_wp2_with fail
              go_roundw
              case rel => exact ⟨i + 1, by omega, by omega, by go_num, _, HF2.out⟩
              case measure => simp [intOf]; omega
            | false =>
              go_wp2_with fail
              go_roundw
              case rel => exact ⟨i + 1, by omega, by omega, by go_num, _, HF2.out⟩
              case measure => simp [intOf]; omega
        · have hend : ¬ i < zs.length ∨ (i < zs.length ∧ ¬ 0 < k) ∨ (i < zs.length ∧ 0 < k ∧ ¬ i < 300) := by omega
          obtain ⟨wo, rfl⟩ : ∃ wo : World, wo = wr := ⟨_, rfl⟩
          obtain ⟨nd, hnd⟩ : ∃ nd : Nat, 2 + (lost : Int) % 4 = (nd : Int) := ⟨2 + lost % 4, by omega⟩
          have hl0 := sel_len k (fun i => lf (3 * i)) idL
          have hl1 := sel_len k (fun i => lf (3 * i + 1)) prM
          have hl2 := sel_len k (fun i => lf (3 * i + 2)) prT
          have HLo := Lib.hid (lost_any HSo.out HNo.out nd p ml mm mt ⟨1, 1, 1⟩ (mL lf k) (mM lf k) (mT lf k) wo HL.out.ties (Nat.le_trans hl0 (by omega)) (Nat.le_trans hl1 (by omega)) (Nat.le_trans hl2 (by omega)))
          have HH := Lib.hid (heard_all lf nd k)
          have HTo := Lib.hid (told_all lf nd k)
          have HCe := Lib.hid (fun x (hx : x < 3 * k) => HL.out.cell hx)
          have HLe := Lib.hid (show (awayL nd (mL lf k)).length ≤ 256 ∧ (awayM nd (mM lf k)).length ≤ 256 ∧ (awayM nd (mT lf k)).length ≤ 256 from ⟨Nat.le_trans (List.length_filter_le _ _) (Nat.le_trans hl0 (by omega)), Nat.le_trans (List.length_filter_le _ _) (Nat.le_trans hl1 (by omega)), Nat.le_trans (List.length_filter_le _ _) (Nat.le_trans hl2 (by omega))⟩)
          clear hlt hl0 hl1 hl2
          rcases hend with he | ⟨he', he⟩ | ⟨he', he2, he⟩
          · go_upto_region 31 with fail
            go_upto_region 32 with fail
            clear hnd
            go_wp2_with fail
            go_loop [20, 21, 22] (fun t20 t21 t22 => ∃ x : Nat, x ≤ 3 * k ∧ t22 = .int .i64 x ∧ t20 = .int .i64 (cnt (heardB lf nd) x) ∧ t21 = .int .i64 (cnt (toldB lf nd) x)) (fun _ _ t22 => 3 * k - (intOf t22).toNat)
            case atStart => exact ⟨0, Nat.zero_le _, rfl, rfl, rfl⟩
            case round =>
              obtain ⟨x, hx, rfl, rfl, rfl⟩ := hrel
              by_cases hlt : x < 3 * k
              · have dx := HCe.out x hlt
                have hxi : (x : Int) < 3 * (k : Int) := by omega
                have hs1 : cnt (heardB lf nd) (x + 1) = cnt (heardB lf nd) x + if (lf x && decide (2 + x / 3 % 3 = nd) && decide (x % 3 < 2)) = true then 1 else 0 := cnt_succ (heardB lf nd) x
                have hs2 : cnt (toldB lf nd) (x + 1) = cnt (toldB lf nd) x + if (lf x && !decide (2 + x / 3 % 3 = nd) && decide (x % 3 ≠ 1)) = true then 1 else 0 := cnt_succ (toldB lf nd) x
                have hc1 := cnt_le (heardB lf nd) x
                have hc2 := cnt_le (toldB lf nd) x
                generalize hg1 : cnt (heardB lf nd) = C1 at *
                generalize hg2 : cnt (toldB lf nd) = C2 at *
                clear hg1 hg2
                generalize C1 x = c1 at *
                generalize C2 x = c2 at *
                obtain ⟨b, hb⟩ : ∃ b, lf x = b := ⟨_, rfl⟩
                rw [hb] at dx hs1 hs2
                clear hb
                have hr : x % 3 = 0 ∨ x % 3 = 1 ∨ x % 3 = 2 := by omega
                by_cases hh : 2 + x / 3 % 3 = nd
                · have hb1 : (2 + (x : Int) / 3 % 3 == (nd : Int)) = true := by rw [beq_iff_eq]; omega
                  have hri : (x : Int) % 3 = ((x % 3 : Nat) : Int) := by omega
                  rcases hr with hr | hr | hr <;> cases b
                  all_goals
                    rw [hr] at hri
                    simp [hh, hr] at hs1 hs2
                    have HS1 := Lib.hid hs1
                    have HS2 := Lib.hid hs2
                    clear hs1 hs2 hh hr
                    go_wp2_with fail
                    go_round
                    case rel => exact ⟨x + 1, by omega, by go_num, by first | (rw [HS1.out]; done) | (rw [HS1.out]; go_num), by first | (rw [HS2.out]; done) | (rw [HS2.out]; go_num)⟩
                    case measure => simp [intOf]; omega
                · have hb1 : (2 + (x : Int) / 3 % 3 == (nd : Int)) = false := by rw [beq_eq_false_iff_ne]; omega
                  have hri : (x : Int) % 3 = ((x % 3 : Nat) : Int) := by omega
                  rcases hr with hr | hr | hr <;> cases b
                  all_goals
                    rw [hr] at hri
                    simp [hh, hr] at hs1 hs2
                    have HS1 := Lib.hid hs1
                    have HS2 := Lib.hid hs2
                    clear hs1 hs2 hh hr
                    go_wp2_with fail
                    go_round
                    case rel => exact ⟨x + 1, by omega, by go_num, by first | (rw [HS1.out]; done) | (rw [HS1.out]; go_num), by first | (rw [HS2.out]; done) | (rw [HS2.out]; go_num)⟩
                    case measure => simp [intOf]; omega
              · obtain rfl : x = 3 * k := by omega
                obtain ⟨h1, hh1⟩ : ∃ y, cnt (heardB lf nd) (3 * k) = y := ⟨_, rfl⟩
                obtain ⟨h2, hh2⟩ : ∃ y, cnt (toldB lf nd) (3 * k) = y := ⟨_, rfl⟩
                rw [hh1, hh2]
                have HH1 := Lib.hid (HH.out.symm.trans hh1)
                have HH2 := Lib.hid (HTo.out.symm.trans hh2)
                clear hh1 hh2 HCe hlt hx
                go_wp2_with fail
                refine HLo.out.mono ?_
                rintro e v1 ⟨a1, c1, q1, rfl, hq1, ht1, hb1⟩
                obtain rfl : q1 = h1 := hq1.trans HH1.out
                have HL1 := Lib.hid (HL.out.turned ht1 hb1)
                clear hq1 ht1 hb1 HL HLo
                go_wp2_with fail
                refine (lost_any HSo.out HNo.out nd p ml mm mt ⟨1, 1, 1⟩ (awayL nd (mL lf k)) (awayM nd (mM lf k)) (awayM nd (mT lf k)) v1 HL1.out.ties HLe.out.1 HLe.out.2.1 HLe.out.2.2).mono ?_
                rintro e v2 ⟨a2, c2, q2, rfl, hq2, ht2, hb2⟩
                rw [here_away, here_awayM] at hq2
                rw [away_away, away_awayM, away_awayM] at ht2
                obtain rfl : q2 = 0 := hq2
                have HL2 := Lib.hid (HL1.out.turned ht2 hb2)
                clear ht2 hb2 HL1
                go_wp2_with fail
                refine (end_any HSo.out HNo.out 1 0 ⟨#[]⟩ (right_int 0 (by decide)) p ml mm mt ⟨1, 1, 1⟩ (awayL nd (mL lf k)) (awayM nd (mM lf k)) (awayM nd (mT lf k)) v2 HL2.out.ties HLe.out.1 HLe.out.2.2).mono ?_
                rintro e v3 ⟨a3, c3, Ls, Ts, rfl, hp1, hp3, -, ht3, hb3⟩
                rw [show Ls.length + Ts.length = h2 from by rw [hp1.length_eq, hp3.length_eq]; exact HH2.out]
                have HL3 := Lib.hid (HL2.out.turned ht3 hb3)
                clear hp1 hp3 ht3 hb3 HL2
                go_wp2_with fail
                refine (end_any HSo.out HNo.out 1 0 ⟨#[]⟩ (right_int 0 (by decide)) p ml mm mt ⟨1, 1, 1⟩ [] [] [] v3 HL3.out.ties (by simp) (by simp)).mono ?_
                rintro e v4 ⟨a4, c4, Ls2, Ts2, rfl, hp1, hp3, -, ht4, hb4⟩
                obtain rfl := List.perm_nil.1 hp1
                obtain rfl := List.perm_nil.1 hp3
                have HL4 := Lib.hid (HL3.out.turned ht4 hb4)
                clear hp1 hp3 ht4 hb4 HL3
                go_wp2_with fail
                go_ret
                exact ⟨ret_bool (by simp), HL4.out.below⟩
          · have hd : decide ((0 : Int) < (k : Int)) = false := by simp; omega
            go_upto_region 31 with fail
            go_upto_region 32 with fail
            clear hnd
            go_wp2_with fail
            go_loop [20, 21, 22] (fun t20 t21 t22 => ∃ x : Nat, x ≤ 3 * k ∧ t22 = .int .i64 x ∧ t20 = .int .i64 (cnt (heardB lf nd) x) ∧ t21 = .int .i64 (cnt (toldB lf nd) x)) (fun _ _ t22 => 3 * k - (intOf t22).toNat)
            case atStart => exact ⟨0, Nat.zero_le _, rfl, rfl, rfl⟩
            case round =>
              obtain ⟨x, hx, rfl, rfl, rfl⟩ := hrel
              by_cases hlt : x < 3 * k
              · have dx := HCe.out x hlt
                have hxi : (x : Int) < 3 * (k : Int) := by omega
                have hs1 : cnt (heardB lf nd) (x + 1) = cnt (heardB lf nd) x + if (lf x && decide (2 + x / 3 % 3 = nd) && decide (x % 3 < 2)) = true then 1 else 0 := cnt_succ (heardB lf nd) x
                have hs2 : cnt (toldB lf nd) (x + 1) = cnt (toldB lf nd) x + if (lf x && !decide (2 + x / 3 % 3 = nd) && decide (x % 3 ≠ 1)) = true then 1 else 0 := cnt_succ (toldB lf nd) x
                have hc1 := cnt_le (heardB lf nd) x
                have hc2 := cnt_le (toldB lf nd) x
                generalize hg1 : cnt (heardB lf nd) = C1 at *
                generalize hg2 : cnt (toldB lf nd) = C2 at *
                clear hg1 hg2
                generalize C1 x = c1 at *
                generalize C2 x = c2 at *
                obtain ⟨b, hb⟩ : ∃ b, lf x = b := ⟨_, rfl⟩
                rw [hb] at dx hs1 hs2
                clear hb
                have hr : x % 3 = 0 ∨ x % 3 = 1 ∨ x % 3 = 2 := by omega
                by_cases hh : 2 + x / 3 % 3 = nd
                · have hb1 : (2 + (x : Int) / 3 % 3 == (nd : Int)) = true := by rw [beq_iff_eq]; omega
                  have hri : (x : Int) % 3 = ((x % 3 : Nat) : Int) := by omega
                  rcases hr with hr | hr | hr <;> cases b
                  all_goals
                    rw [hr] at hri
                    simp [hh, hr] at hs1 hs2
                    have HS1 := Lib.hid hs1
                    have HS2 := Lib.hid hs2
                    clear hs1 hs2 hh hr
                    go_wp2_with fail
                    go_round
                    case rel => exact ⟨x + 1, by omega, by go_num, by first | (rw [HS1.out]; done) | (rw [HS1.out]; go_num), by first | (rw [HS2.out]; done) | (rw [HS2.out]; go_num)⟩
                    case measure => simp [intOf]; omega
                · have hb1 : (2 + (x : Int) / 3 % 3 == (nd : Int)) = false := by rw [beq_eq_false_iff_ne]; omega
                  have hri : (x : Int) % 3 = ((x % 3 : Nat) : Int) := by omega
                  rcases hr with hr | hr | hr <;> cases b
                  all_goals
                    rw [hr] at hri
                    simp [hh, hr] at hs1 hs2
                    have HS1 := Lib.hid hs1
                    have HS2 := Lib.hid hs2
                    clear hs1 hs2 hh hr
                    go_wp2_with fail
                    go_round
                    case rel => exact ⟨x + 1, by omega, by go_num, by first | (rw [HS1.out]; done) | (rw [HS1.out]; go_num), by first | (rw [HS2.out]; done) | (rw [HS2.out]; go_num)⟩
                    case measure => simp [intOf]; omega
              · obtain rfl : x = 3 * k := by omega
                obtain ⟨h1, hh1⟩ : ∃ y, cnt (heardB lf nd) (3 * k) = y := ⟨_, rfl⟩
                obtain ⟨h2, hh2⟩ : ∃ y, cnt (toldB lf nd) (3 * k) = y := ⟨_, rfl⟩
                rw [hh1, hh2]
                have HH1 := Lib.hid (HH.out.symm.trans hh1)
                have HH2 := Lib.hid (HTo.out.symm.trans hh2)
                clear hh1 hh2 HCe hlt hx
                go_wp2_with fail
                refine HLo.out.mono ?_
                rintro e v1 ⟨a1, c1, q1, rfl, hq1, ht1, hb1⟩
                obtain rfl : q1 = h1 := hq1.trans HH1.out
                have HL1 := Lib.hid (HL.out.turned ht1 hb1)
                clear hq1 ht1 hb1 HL HLo
                go_wp2_with fail
                refine (lost_any HSo.out HNo.out nd p ml mm mt ⟨1, 1, 1⟩ (awayL nd (mL lf k)) (awayM nd (mM lf k)) (awayM nd (mT lf k)) v1 HL1.out.ties HLe.out.1 HLe.out.2.1 HLe.out.2.2).mono ?_
                rintro e v2 ⟨a2, c2, q2, rfl, hq2, ht2, hb2⟩
                rw [here_away, here_awayM] at hq2
                rw [away_away, away_awayM, away_awayM] at ht2
                obtain rfl : q2 = 0 := hq2
                have HL2 := Lib.hid (HL1.out.turned ht2 hb2)
                clear ht2 hb2 HL1
                go_wp2_with fail
                refine (end_any HSo.out HNo.out 1 0 ⟨#[]⟩ (right_int 0 (by decide)) p ml mm mt ⟨1, 1, 1⟩ (awayL nd (mL lf k)) (awayM nd (mM lf k)) (awayM nd (mT lf k)) v2 HL2.out.ties HLe.out.1 HLe.out.2.2).mono ?_
                rintro e v3 ⟨a3, c3, Ls, Ts, rfl, hp1, hp3, -, ht3, hb3⟩
                rw [show Ls.length + Ts.length = h2 from by rw [hp1.length_eq, hp3.length_eq]; exact HH2.out]
                have HL3 := Lib.hid (HL2.out.turned ht3 hb3)
                clear hp1 hp3 ht3 hb3 HL2
                go_wp2_with fail
                refine (end_any HSo.out HNo.out 1 0 ⟨#[]⟩ (right_int 0 (by decide)) p ml mm mt ⟨1, 1, 1⟩ [] [] [] v3 HL3.out.ties (by simp) (by simp)).mono ?_
                rintro e v4 ⟨a4, c4, Ls2, Ts2, rfl, hp1, hp3, -, ht4, hb4⟩
                obtain rfl := List.perm_nil.1 hp1
                obtain rfl := List.perm_nil.1 hp3
                have HL4 := Lib.hid (HL3.out.turned ht4 hb4)
                clear hp1 hp3 ht4 hb4 HL3
                go_wp2_with fail
                go_ret
                exact ⟨ret_bool (by simp), HL4.out.below⟩
          · have hd0 : decide ((0 : Int) < (k : Int)) = true := by simp; omega
            have hd : decide ((i : Int) < 300) = false := by simp; omega
            go_upto_region 31 with fail
            go_upto_region 32 with fail
            clear hnd
            go_wp2_with fail
            go_loop [20, 21, 22] (fun t20 t21 t22 => ∃ x : Nat, x ≤ 3 * k ∧ t22 = .int .i64 x ∧ t20 = .int .i64 (cnt (heardB lf nd) x) ∧ t21 = .int .i64 (cnt (toldB lf nd) x)) (fun _ _ t22 => 3 * k - (intOf t22).toNat)
            case atStart => exact ⟨0, Nat.zero_le _, rfl, rfl, rfl⟩
            case round =>
              obtain ⟨x, hx, rfl, rfl, rfl⟩ := hrel
              by_cases hlt : x < 3 * k
              · have dx := HCe.out x hlt
                have hxi : (x : Int) < 3 * (k : Int) := by omega
                have hs1 : cnt (heardB lf nd) (x + 1) = cnt (heardB lf nd) x + if (lf x && decide (2 + x / 3 % 3 = nd) && decide (x % 3 < 2)) = true then 1 else 0 := cnt_succ (heardB lf nd) x
                have hs2 : cnt (toldB lf nd) (x + 1) = cnt (toldB lf nd) x + if (lf x && !decide (2 + x / 3 % 3 = nd) && decide (x % 3 ≠ 1)) = true then 1 else 0 := cnt_succ (toldB lf nd) x
                have hc1 := cnt_le (heardB lf nd) x
                have hc2 := cnt_le (toldB lf nd) x
                generalize hg1 : cnt (heardB lf nd) = C1 at *
                generalize hg2 : cnt (toldB lf nd) = C2 at *
                clear hg1 hg2
                generalize C1 x = c1 at *
                generalize C2 x = c2 at *
                obtain ⟨b, hb⟩ : ∃ b, lf x = b := ⟨_, rfl⟩
                rw [hb] at dx hs1 hs2
                clear hb
                have hr : x % 3 = 0 ∨ x % 3 = 1 ∨ x % 3 = 2 := by omega
                by_cases hh : 2 + x / 3 % 3 = nd
                · have hb1 : (2 + (x : Int) / 3 % 3 == (nd : Int)) = true := by rw [beq_iff_eq]; omega
                  have hri : (x : Int) % 3 = ((x % 3 : Nat) : Int) := by omega
                  rcases hr with hr | hr | hr <;> cases b
                  all_goals
                    rw [hr] at hri
                    simp [hh, hr] at hs1 hs2
                    have HS1 := Lib.hid hs1
                    have HS2 := Lib.hid hs2
                    clear hs1 hs2 hh hr
                    go_wp2_with fail
                    go_round
                    case rel => exact ⟨x + 1, by omega, by go_num, by first | (rw [HS1.out]; done) | (rw [HS1.out]; go_num), by first | (rw [HS2.out]; done) | (rw [HS2.out]; go_num)⟩
                    case measure => simp [intOf]; omega
                · have hb1 : (2 + (x : Int) / 3 % 3 == (nd : Int)) = false := by rw [beq_eq_false_iff_ne]; omega
                  have hri : (x : Int) % 3 = ((x % 3 : Nat) : Int) := by omega
                  rcases hr with hr | hr | hr <;> cases b
                  all_goals
                    rw [hr] at hri
                    simp [hh, hr] at hs1 hs2
                    have HS1 := Lib.hid hs1
                    have HS2 := Lib.hid hs2
                    clear hs1 hs2 hh hr
                    go_wp2_with fail
                    go_round
                    case rel => exact ⟨x + 1, by omega, by go_num, by first | (rw [HS1.out]; done) | (rw [HS1.out]; go_num), by first | (rw [HS2.out]; done) | (rw [HS2.out]; go_num)⟩
                    case measure => simp [intOf]; omega
              · obtain rfl : x = 3 * k := by omega
                obtain ⟨h1, hh1⟩ : ∃ y, cnt (heardB lf nd) (3 * k) = y := ⟨_, rfl⟩
                obtain ⟨h2, hh2⟩ : ∃ y, cnt (toldB lf nd) (3 * k) = y := ⟨_, rfl⟩
                rw [hh1, hh2]
                have HH1 := Lib.hid (HH.out.symm.trans hh1)
                have HH2 := Lib.hid (HTo.out.symm.trans hh2)
                clear hh1 hh2 HCe hlt hx
                go_wp2_with fail
                refine HLo.out.mono ?_
                rintro e v1 ⟨a1, c1, q1, rfl, hq1, ht1, hb1⟩
                obtain rfl : q1 = h1 := hq1.trans HH1.out
                have HL1 := Lib.hid (HL.out.turned ht1 hb1)
                clear hq1 ht1 hb1 HL HLo
                go_wp2_with fail
                refine (lost_any HSo.out HNo.out nd p ml mm mt ⟨1, 1, 1⟩ (awayL nd (mL lf k)) (awayM nd (mM lf k)) (awayM nd (mT lf k)) v1 HL1.out.ties HLe.out.1 HLe.out.2.1 HLe.out.2.2).mono ?_
                rintro e v2 ⟨a2, c2, q2, rfl, hq2, ht2, hb2⟩
                rw [here_away, here_awayM] at hq2
                rw [away_away, away_awayM, away_awayM] at ht2
                obtain rfl : q2 = 0 := hq2
                have HL2 := Lib.hid (HL1.out.turned ht2 hb2)
                clear ht2 hb2 HL1
                go_wp2_with fail
                refine (end_any HSo.out HNo.out 1 0 ⟨#[]⟩ (right_int 0 (by decide)) p ml mm mt ⟨1, 1, 1⟩ (awayL nd (mL lf k)) (awayM nd (mM lf k)) (awayM nd (mT lf k)) v2 HL2.out.ties HLe.out.1 HLe.out.2.2).mono ?_
                rintro e v3 ⟨a3, c3, Ls, Ts, rfl, hp1, hp3, -, ht3, hb3⟩
                rw [show Ls.length + Ts.length = h2 from by rw [hp1.length_eq, hp3.length_eq]; exact HH2.out]
                have HL3 := Lib.hid (HL2.out.turned ht3 hb3)
                clear hp1 hp3 ht3 hb3 HL2
                go_wp2_with fail
                refine (end_any HSo.out HNo.out 1 0 ⟨#[]⟩ (right_int 0 (by decide)) p ml mm mt ⟨1, 1, 1⟩ [] [] [] v3 HL3.out.ties (by simp) (by simp)).mono ?_
                rintro e v4 ⟨a4, c4, Ls2, Ts2, rfl, hp1, hp3, -, ht4, hb4⟩
                obtain rfl := List.perm_nil.1 hp1
                obtain rfl := List.perm_nil.1 hp3
                have HL4 := Lib.hid (HL3.out.turned ht4 hb4)
                clear hp1 hp3 ht4 hb4 HL3
                go_wp2_with fail
                go_ret
                exact ⟨ret_bool (by simp), HL4.out.below⟩
end Go.Proofs.Ytkpeelhanmekdaa

