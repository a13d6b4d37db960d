/- MailOnce: the walk, over the calls' contracts. -/
import Derived.Test.YtoipepppdaalpaaN2
import Derived.Test.YtoipepppdaalpaaN5
import Derived.Test.YtoipepppdaalpaaN8
import Derived.Test.YtoipepppdaalpaaL4
namespace Go.Proofs.Ytoipepppdaalpaa
open Go.RowKit
attribute [local go_sem] run_store_complex

def TakeYes : Prop := ∀ (B p : Nat) (v : Value) (ms : List Int) (over : Nat) (w : World), B ≤ w.heap.size → BoxAt B w p v ms over → ∀ (ho : over < ms.length), ms.length ≤ 256 →
  Calls Try.prog 9 #[.pointer (some ⟨p, 0, none⟩)] w fun e w' => e = .returned (.tuple #[tm 1 ms[over], .int .i64 0]) ∧ ∃ v', BoxAt B w' p v' (ms.take over ++ ms.drop (over + 1)) 0 ∧ Turn (fun i => i = p) w w' ∧ (∀ b, v'.ownBlock = some b → w.heap.size ≤ b)
def TakeNo : Prop := ∀ (B p : Nat) (v : Value) (ms : List Int) (over : Nat) (w : World), BoxAt B w p v ms over → ¬ over < ms.length →
  Calls Try.prog 9 #[.pointer (some ⟨p, 0, none⟩)] w fun e w' => e = .returned (.tuple #[tm 0 0, .int .i64 211]) ∧ BoxAt B w' p v ms over ∧ Turn (fun i => i = p) w w'
def AliveTold : Prop := ∀ w : World, Calls Try.prog 4 #[] w (RB w (.bool true))
theorem BoxAt.weaken {B B' : Nat} {w : World} {p : Nat} {v : Value} {ms : List Int} {over : Nat} (h : BoxAt B w p v ms over) (hb : B' ≤ B) : BoxAt B' w p v ms over :=
  ⟨Nat.le_trans hb h.base, h.cells, owns_mono h.owns hb, h.apart, h.form⟩
theorem infoB : (Try.prog.info? 4).map (fun i => (i.zero, i.size, i.bytes)) = some (some (.bool false), 1, 1) := by kernel_rfl
def nums (k : Nat) : List Int := (List.range k).map fun (j : Nat) => (j : Int)
theorem nums_succ (k : Nat) : nums (k + 1) = nums k ++ [(k : Int)] := by simp [nums, List.range_succ]
theorem nums_len (k : Nat) : (nums k).length = k := by simp [nums]
theorem nums_ms (n : Nat) : nums n = msOf (List.replicate n false) := by rw [nums, msOf, lft_start]
def l1Rel (w : World) (p nn : Nat) (t6 : Value) (wr : World) : Prop := ∃ k : Nat, k ≤ nn ∧ t6 = .int .i64 k ∧ Below w.heap.size w wr ∧ ∃ v, BoxAt w.heap.size wr p v (nums k) 0
/-- the second loop's state -/
structure OnSt (w : World) (p G nn : Nat) (v : Value) (gs : List Bool) (over : Nat) (wr : World) : Prop where
  len : gs.length = nn
  box : BoxAt w.heap.size wr p v (msOf gs) over
  apart : v.ownBlock ≠ some G
  owns : wr.ownsRow w.heap.size 4 1 (.slice (some ⟨G, 0, none⟩) nn nn) nn (gs.map Value.bool)
  below : Below w.heap.size w wr
  gp : ¬ G = p
theorem OnSt.glt {w : World} {p G nn : Nat} {v : Value} {gs : List Bool} {over : Nat} {wr : World} (h : OnSt w p G nn v gs over wr) : w.heap.size ≤ G ∧ G < wr.heap.size := h.owns.lt G rfl
theorem OnSt.ms256 {w : World} {p G nn : Nat} {v : Value} {gs : List Bool} {over : Nat} {wr : World} (h : OnSt w p G nn v gs over wr) (hn : nn < 256) : (msOf gs).length ≤ 256 := by
  rw [msOf_len]
  have := lft_le gs
  have := h.len
  omega
/-- a call that turns the box alone -/
theorem OnSt.turned {w : World} {p G nn : Nat} {v v' : Value} {gs : List Bool} {over over' : Nat} {wr w' : World} (h : OnSt w p G nn v gs over wr) (hb : BoxAt w.heap.size w' p v' (msOf gs) over') (ha : v'.ownBlock ≠ some G) (ht : Turn (fun i => i = p) wr w') : OnSt w p G nn v' gs over' w' := by
  refine ⟨h.len, hb, ha, ?_, h.below.trans (ht.below h.below.size (fun i e => by subst e; exact hb.base)), h.gp⟩
  obtain ⟨h1, h2⟩ := h.owns
  refine ⟨h1, h2.imp id fun ⟨g, cap, cur, hv, hg, hh, r⟩ => ⟨g, cap, cur, hv, hg, ?_, r⟩⟩
  have hgG : G = g := by injection hv with e _ _; injection e with e; injection e with e
  rw [ht.block g (Array.getElem?_eq_some_iff.1 hh).1 (fun e => h.gp (by omega)), hh]
/-- a message taken, and marked as gone -/
theorem OnSt.took {w : World} {p G nn : Nat} {v v' : Value} {gs : List Bool} {over : Nat} {wr w' : World} (h : OnSt w p G nn v gs over wr) (hl : over < (lft gs).length) (hb : BoxAt w.heap.size w' p v' ((msOf gs).take over ++ (msOf gs).drop (over + 1)) 0) (ht : Turn (fun i => i = p) wr w') (hf : ∀ b, v'.ownBlock = some b → wr.heap.size ≤ b) :
    OnSt w p G nn v' (gs.set (lft gs)[over] true) 0 (w'.setCell ⟨G, (lft gs)[over], none⟩ (.bool true)) := by
  have hG := h.glt
  have hms : (msOf gs).take over ++ (msOf gs).drop (over + 1) = msOf (gs.set (lft gs)[over] true) := by
    unfold msOf
    rw [lft_set hl, List.map_append, List.map_take, List.map_drop]
  have hv : ∀ b, v'.ownBlock = some b → ¬ b = G := fun b e => by have := hf b e; omega
  have ho1 : w'.ownsRow w.heap.size 4 1 (.slice (some ⟨G, 0, none⟩) nn nn) nn (gs.map Value.bool) := by
    obtain ⟨h1, h2⟩ := h.owns
    refine ⟨h1, h2.imp id fun ⟨g, cap, cur, hv, hg, hh, r⟩ => ⟨g, cap, cur, hv, hg, ?_, r⟩⟩
    have hgG : G = g := by injection hv with e _ _; injection e with e; injection e with e
    rw [ht.block g (Array.getElem?_eq_some_iff.1 hh).1 (fun e => h.gp (by omega)), hh]
  refine ⟨by rw [List.length_set]; exact h.len, ?_, fun e => hv G e rfl, ?_, ?_, h.gp⟩
  · rw [← hms]
    refine hb.keep fun i hi => Below.heap_setCell _ _ _ _ ?_
    rcases hi with rfl | hi
    · exact fun e => h.gp e.symm
    · exact fun e => hv i hi e
  · have := (ho1.stored (lft gs)[over] (.bool true)).1
    rw [List.map_set]
    exact this
  · have hbw : Below w.heap.size w w' := h.below.trans (ht.below h.below.size (fun i e => by subst e; exact hb.base))
    exact hbw.setCell hG.1 _
theorem OnSt.alloc {w : World} {p G nn : Nat} {v : Value} {gs : List Bool} {over : Nat} {wr : World} (h : OnSt w p G nn v gs over wr) (o : Obj) : OnSt w p G nn v gs over (wr.alloc o) :=
  h.turned (h.box.below ((Below.refl _ wr).alloc (Nat.le_refl _) o)) h.apart (Turn.alloc _ wr o)
theorem ms_range (gs : List Bool) (h : gs.length ≤ 1000) : ∀ x ∈ msOf gs, 0 ≤ x ∧ x ≤ 1000 := by
  intro x hx
  unfold msOf at hx
  obtain ⟨j, hj, rfl⟩ := List.mem_map.1 hx
  have := (lft_mem hj).1
  omega
def l2Rel (w : World) (p G nn len : Nat) (t8 : Value) (wr : World) : Prop := ∃ i : Nat, i ≤ len ∧ i ≤ 300 ∧ t8 = .int .i64 i ∧ ∃ v gs over, OnSt w p G nn v gs over wr
def l3Rel (w : World) (p G nn : Nat) (v : Value) (gs : List Bool) (z : Nat) (t9 : Value) (wr : World) : Prop := ∃ k : Nat, k ≤ z ∧ t9 = .int .i64 k ∧ ∃ over, OnSt w p G nn v gs over wr
theorem Sl.cellI {W : World} {a : Option Addr} {n c : Nat} {l : List Int} (h : Sl W (.slice a n c) (l.map (Value.int .u8))) {k : Nat} (hk : k < l.length) : ∃ b off, a = some ⟨b, off, none⟩ ∧ ∀ j, (hj : j < l.length) → W.cell? ⟨b, off + j, none⟩ = some (.int .u8 l[j]) := by
  obtain ⟨a', c', e, hm, hc⟩ := h
  cases e
  obtain ⟨b, off, rfl, hcell⟩ := hc (by simp; omega)
  refine ⟨b, off, rfl, fun j hj => ?_⟩
  have := hcell j (by simpa using hj)
  simpa using this
set_option maxRecDepth 100000 in
set_option maxHeartbeats 4000000 in
theorem once_of (hAl : AliveTold) (hTy : TakeYes) (hTn : TakeNo) (nn : Nat) (hn : nn < 256) (v : Value) (zs : List Int) (w : World) (hv : Sl w v (zs.map (Value.int .u8))) (hz : ∀ z ∈ zs, 0 ≤ z ∧ z ≤ 255) :
    Calls Try.prog 3 #[.int .u8 (nn : Int), v] w (RB w (.bool true)) := by
  have HV := Lib.hid hv
  have HZ := Lib.hid hz
  have hll : (zs.map (Value.int .u8)).length = zs.length := by simp
  obtain ⟨a, c, rfl, hm, -⟩ := hv
  rw [hll] at HV hm ⊢
  clear hll hz
  have hn0 : (0 : Int) ≤ (nn : Int) := by omega
  have hn1 : (nn : Int) < 256 := by omega
  go_enter Try.func3, Try.ntmps3
  go_wp2_with fail
  refine (hAl w).mono ?_
  rintro e w1 ⟨rfl, hb1⟩
  have HB1 := Lib.hid hb1
  clear hb1
  go_wp2_with fail
  refine (new_any w1).mono ?_
  rintro e w2 ⟨rfl, hw2⟩
  have HX2 : Hid (BoxAt w.heap.size w2 w1.heap.size (.slice none 0 0) [] 0) := by rw [← hw2]; exact (BoxAt.new w1).weaken HB1.out.size
  have HB2 : Hid (Below w.heap.size w w2) := by rw [← hw2]; exact HB1.out.alloc HB1.out.size _
  clear hw2
  generalize w1.heap.size = p at *
  go_wp2_with fail
  go_loopw [6] (fun t6 wr => l1Rel w p nn t6 wr) (fun t6 _ => nn - (intOf t6).toNat)
  case atStart => exact ⟨0, Nat.zero_le _, rfl, HB2.out, _, HX2.out⟩
  case round =>
    obtain ⟨k, hk, rfl, hb, v, hx⟩ := hrel
    have HB := Lib.hid hb
    have HX := Lib.hid hx
    clear hb hx
    by_cases hlt : k < nn
    · go_wp2_with fail
      refine (number_any (k : Int) wr).mono ?_
      rintro e w5 ⟨rfl, hb5⟩
      have HX5 := Lib.hid (HX.out.below hb5)
      have HB5 := Lib.hid (HB.out.trans (hb5.mono HB.out.size))
      clear hb5
      go_wp2_with fail
      refine (put_any w.heap.size p v (nums k) 0 (k : Int) w5 HB5.out.size HX5.out (by rw [nums_len]; omega) (by omega) (by omega)).mono ?_
      rintro e w6 ⟨rfl, v6, hx6, ht6⟩
      rw [← nums_succ] at hx6
      have HX6 := Lib.hid hx6
      have HB6 := Lib.hid (HB5.out.trans (ht6.below HB5.out.size (fun i e => e.elim (fun e => by subst e; exact HX5.out.base) (fun e => (HX5.out.owns.lt i e).1))))
      clear hx6 ht6
      go_wp2_with fail
      go_roundw
      case rel => exact ⟨k + 1, by omega, by go_num, HB6.out, v6, HX6.out⟩
      case measure => simp [intOf]; omega
    · obtain rfl : k = nn := by omega
      obtain ⟨wo, rfl⟩ : ∃ wo : World, wo = wr := ⟨_, rfl⟩
      obtain ⟨i0, hi, hz0, hz1, hz2⟩ := info_parts infoB
      obtain ⟨wm, hrun, hown, hgrow⟩ := run_makeSlice_full (P := Try.prog) wo w.heap.size 37 4 i0 (.bool false) 1 Try.underlying37 hi hz0 hz1 .i64 .i64 k (by omega) (by rw [hz2]; omega) (by unfold maxLen; omega) HB.out.size
      have HS0 : Hid (OnSt w p wo.heap.size k v (List.replicate k false) 0 wm) := by
        have hbm := (Turn.of_grownBy hgrow).below (B := w.heap.size) HB.out.size (fun i e => by cases e)
        have hxm := HX.out.keep (w' := wm) (fun i hi => hgrow.block i (by rcases hi with rfl | hi; exact HX.out.lt; exact (HX.out.owns.lt i hi).2) (by simp))
        refine ⟨by simp, ?_, fun e => by have := (HX.out.owns.lt _ e).2; omega, ?_, HB.out.trans hbm, fun e => by have := HX.out.lt; omega⟩
        · rw [← nums_ms]; exact hxm
        · have e1 : (madeCells (Value.bool false).cells (k * 1)).toList = (List.replicate k false).map Value.bool := by
            rw [Nat.mul_one, show (Value.bool false).cells = #[.bool false] from rfl, toList_madeCells_one, List.map_replicate]
          rw [← e1]; exact hown
      clear hi hz0 hz1 hz2 hown hgrow
      generalize wo.heap.size = G at *
      go_wp2_with fail
      go_loopw [8] (fun t8 wr => l2Rel w p G k zs.length t8 wr) (fun t8 _ => 300 - (intOf t8).toNat)
      case atStart => exact ⟨0, Nat.zero_le _, Nat.zero_le _, rfl, _, _, _, HS0.out⟩
      case round =>
        obtain ⟨i, hi1, hi2, rfl, v2, gs, over, hst⟩ := hrel
        have HS := Lib.hid hst
        clear hst
        obtain ⟨wl, rfl⟩ : ∃ wl : World, wl = wr := ⟨_, rfl⟩
        by_cases hlt : i < zs.length ∧ i < 300
        · obtain ⟨hlt, hlt3⟩ := hlt
          obtain ⟨bz, oz, rfl, hcz⟩ := HV.out.cellI hlt
          have hzr := HZ.out _ (List.getElem_mem hlt)
          have HCZ := Lib.hid (hcz i hlt)
          clear hcz
          generalize zs[i] = z at *
          obtain ⟨z0, z1⟩ := hzr
          obtain ⟨zn, rfl⟩ : ∃ zn : Nat, z = (zn : Int) := ⟨z.toNat, by omega⟩
          have hd300 : decide ((i : Int) < 300) = true := by simp; omega
          go_wp2_with fail
          go_loopw [9] (fun t9 wr => l3Rel w p G k v2 gs zn t9 wr) (fun t9 _ => zn - (intOf t9).toNat)
          case atStart => exact ⟨0, Nat.zero_le _, rfl, _, HS.out⟩
          case round =>
            obtain ⟨j, hj, rfl, ov, hst⟩ := hrel
            have HSj := Lib.hid hst
            have cz : wr.cell? ⟨bz, oz + i, none⟩ = some (.int .u8 (zn : Int)) := (hst.below.cell (p := ⟨bz, oz + i, none⟩) (cell_lt HCZ.out)).trans HCZ.out
            have hms := hst.ms256 hn
            clear hst
            by_cases hjlt : j < zn
            · go_wp2_with fail
              refine (next_any w.heap.size p v2 (msOf gs) ov wr HSj.out.box hms).mono ?_
              rintro e w7 ⟨rfl, hx7, ht7⟩
              have HS7 := Lib.hid (HSj.out.turned hx7 HSj.out.apart ht7)
              clear hx7 ht7 cz
              go_wp2_with fail
              go_roundw
              case rel => exact ⟨j + 1, by omega, by go_num, _, HS7.out⟩
              case measure => simp [intOf]; omega
            · obtain ⟨wj, rfl⟩ : ∃ wj : World, wj = wr := ⟨_, rfl⟩
              by_cases ho : ov < (msOf gs).length
              · have hol : ov < (lft gs).length := by rw [← msOf_len]; exact ho
                have hat := msOf_at gs hol
                have hjg := lft_mem (List.getElem_mem hol)
                have HTy := Lib.hid (hTy w.heap.size p v2 (msOf gs) ov wj HSj.out.below.size HSj.out.box ho hms)
                rw [hat] at HTy
                go_wp2_with fail
                refine HTy.out.mono ?_
                rintro e w8 ⟨rfl, v8, hx8, ht8, hf8⟩
                have HK := Lib.hid (HSj.out.took hol hx8 ht8 hf8)
                have hlen := HSj.out.len
                have hown8 : w8.heap[G]? = wj.heap[G]? := ht8.block G HSj.out.glt.2 HSj.out.gp
                have hG8 : G < w8.heap.size := by have := ht8.size; have := HSj.out.glt; omega
                have hcell8 : w8.cell? ⟨G, (lft gs)[ov], none⟩ = some (.bool false) := by
                  rw [World.cell?_of_block (w := wj) hown8, HSj.out.owns.cellAt _ (by omega), List.getElem?_map]
                  have := hjg.2
                  rw [List.getD, List.getElem?_eq_getElem hjg.1] at this
                  simp at this
                  rw [List.getElem?_eq_getElem hjg.1, this]
                  rfl
                have hfz8 : w8.frozen? ⟨G, (lft gs)[ov], none⟩ = false := by
                  have := HSj.out.owns.frozenAt (lft gs)[ov]
                  simp only [World.frozen?, hown8] at this ⊢
                  exact this
                have hjk : (lft gs)[ov] < k := by omega
                clear hx8 ht8 hf8 hlen hown8 hjg hat cz
                generalize (lft gs)[ov] = m at *
                have hm0 : (0 : Int) ≤ (m : Int) := by omega
                have hm1 : (m : Int) < (k : Int) := by omega
                go_wp2_with fail
                go_roundw
                case rel => exact ⟨i + 1, by omega, by omega, by go_num, _, _, _, HK.out.alloc _⟩
                case measure => simp [intOf]; omega
              · go_wp2_with fail
                refine (hTn w.heap.size p v2 (msOf gs) ov wj HSj.out.box ho).mono ?_
                rintro e w8 ⟨rfl, hx8, ht8⟩
                have HS8 := Lib.hid (HSj.out.turned hx8 HSj.out.apart ht8)
                clear hx8 ht8 cz
                go_wp2_with fail
                refine (again_any w.heap.size p v2 (msOf gs) ov _ (HS8.out.box.below ((Below.refl _ _).alloc (Nat.le_refl _) _))).mono ?_
                rintro e w9 ⟨rfl, hx9, ht9⟩
                have HS9 := Lib.hid ((HS8.out.alloc _).turned hx9 HS8.out.apart ht9)
                clear hx9 ht9
                go_wp2_with fail
                go_roundw
                case rel => exact ⟨i + 1, by omega, by omega, by go_num, _, _, _, HS9.out⟩
                case measure => simp [intOf]; omega
        · have hend : ¬ i < zs.length ∨ (i < zs.length ∧ ¬ i < 300) := by omega
          have hms := HS.out.ms256 hn
          have hrg : ∀ x ∈ msOf gs, 0 ≤ x ∧ x ≤ 1000 := ms_range gs (by have := HS.out.len; omega)
          have HAll := Lib.hid (all_any w.heap.size p v2 (msOf gs) over wl HS.out.box hms hrg)
          clear hlt hrg
          rcases hend with he | ⟨he', he⟩
          all_goals
            have hd300 : i < zs.length → decide ((i : Int) < 300) = false := fun h => by simp; omega
            first
            | (have hd3 := hd300 he'; clear hd300)
            | clear hd300
            go_wp2_with fail
            refine HAll.out.mono ?_
            rintro e w9 ⟨hb9, aA, cA, rfl, hoA⟩
            have HBf := Lib.hid (HS.out.below.trans (hb9.mono HS.out.below.size))
            have HG9 : Hid (∀ j, (hj : j < gs.length) → w9.cell? ⟨G, j, none⟩ = some (.bool gs[j])) := fun j hj => by
              rw [World.cell?_of_block (w := wl) (hb9.block G HS.out.glt.2), HS.out.owns.cellAt _ (by have := HS.out.len; omega)]
              simp
            have HA9 := Lib.hid hoA
            have hgl := HS.out.len
            clear hb9 hoA
            go_wp2_with fail
            go_loop [13, 14] (fun t13 t14 => ∃ j : Nat, j ≤ k ∧ t14 = .int .i64 j ∧ t13 = .int .i64 (cnt gs j)) (fun _ t14 => k - (intOf t14).toNat)
            case atStart => exact ⟨0, Nat.zero_le _, rfl, rfl⟩
            case round =>
              obtain ⟨j, hj, rfl, rfl⟩ := hrel
              by_cases hjk : j < k
              · have hjg : j < gs.length := by omega
                have cg := HG9.out j hjg
                have hcs := cnt_succ gs j
                by_cases hgj : gs.getD j true = false
                · obtain ⟨hc, hcj⟩ := lft_at hjg hgj
                  have hcm : cnt gs j < (msOf gs).length := by rw [msOf_len]; exact hc
                  have hv : (msOf gs)[cnt gs j] = (j : Int) := by rw [msOf_at gs hc, hcj]
                  obtain ⟨gA, rfl⟩ : ∃ gA, aA = some ⟨gA, 0, none⟩ := by
                    rcases HA9.out.2 with ⟨_, h0⟩ | ⟨g, cap, cur, e, _⟩
                    · omega
                    · injection e with e _ _
                      exact ⟨g, e⟩
                  have ct := (owns_term HA9.out hcm).2.1
                  rw [hv] at ct
                  have hg2 : gs[j] = false := by
                    rw [List.getD, List.getElem?_eq_getElem hjg] at hgj
                    simpa using hgj
                  rw [hg2] at cg
                  rw [if_pos hgj] at hcs
                  have HCS := Lib.hid hcs
                  have hci : (cnt gs j : Int) < ((msOf gs).length : Int) := by omega
                  clear hcs hv hcj hgj hg2
                  generalize cnt gs j = cc at *
                  go_wp2_with fail
                  go_round
                  case rel => exact ⟨j + 1, by omega, by go_num, by rw [HCS.out]; go_num⟩
                  case measure => simp [intOf]; omega
                · have hg2 : gs[j] = true := by
                    rw [List.getD, List.getElem?_eq_getElem hjg] at hgj
                    simpa using hgj
                  rw [hg2] at cg
                  rw [if_neg hgj] at hcs
                  have HCS := Lib.hid hcs
                  clear hcs hgj hg2
                  generalize cnt gs j = cc at *
                  go_wp2_with fail
                  go_round
                  case rel => exact ⟨j + 1, by omega, by go_num, by rw [HCS.out]; rfl⟩
                  case measure => simp [intOf]; omega
              · have hjl : j = gs.length := by omega
                have HE := Lib.hid (show cnt gs j = (msOf gs).length by rw [hjl, cnt_end, msOf_len])
                clear hjl
                rw [HE.out]
                go_wp2_with fail
                go_ret
                exact ⟨ret_bool (by simp), HBf.out⟩
end Go.Proofs.Ytoipepppdaalpaa
