/- Several texts in one. -/
import Derived.Test.YtkfblapfphnggaaD07
import Derived.RegionCalls
import Derived.Deep.RegionWith
import Derived.Laws.DeepNot64
import Derived.Test.YtkfblapfphnggaaD01
import Derived.Deep.RegionHeld3
import Derived.Deep.RegionLaw
import Derived.Deep.DeepMust
import Derived.StillTailTactics
import Derived.Deep.DeepCutAuto
import Derived.Deep.QuietTactic
import Derived.BigQuiet
/- The reader's names: a new one. -/
namespace Go.Proofs.Ytkfblapfphnggaa
open Go.RowKit
set_option maxRecDepth 100000

theorem infoB : (Try.prog.info? 5).map (fun i => (i.zero, i.size, i.bytes)) = some (some (.int .u8 0), 1, 1) := by kernel_rfl
set_option maxHeartbeats 1000000 in
theorem name_err (R p m : Nat) (v bv : Value) (bs : List UInt8) (s : St) (x : Int) (w : World) (h : RdAt w R p m v bv bs s) (hw : wideN bs s = .error x) :
    Calls Try.prog 30 #[.pointer (some ⟨R, 0, none⟩)] w (P2 R p m v bv bs w .string (nameP bs s)) := by
  have HN := Lib.hid (show nameP bs s = .error x by rw [nameP_eq, hw])
  have H1 := wide_any R p m v bv bs s w h
  rw [hw] at H1
  have HW := Lib.hid H1
  clear H1 hw h
  go_enter Try.func30, Try.ntmps30
  go_wp2_with fail
  refine HW.out.mono ?_
  rintro e w1 ⟨rfl, hT1⟩
  have HT1 := Lib.hid hT1
  clear hT1
  go_wp2_with fail
  refine ⟨rfl, ?_⟩
  rw [HN.out]
  exact ⟨rfl, turnR HT1.out⟩
/-- how a round of the name's loop begins -/
def nmRel (R p m : Nat) (v bv : Value) (bs : List UInt8) (s : St) (W : World) (base size : Nat) (t8 t52 : Value) (w : World) : Prop :=
  ∃ j : Nat, j ≤ size ∧ s.i + j ≤ bs.length ∧ t52 = .int .i64 j ∧ w.ownsRow base 5 1 t8 j (((bs.drop s.i).take j).map cellB) ∧ RdAt w R p m v bv bs { s with i := s.i + j } ∧ Turn (fun i => i = R) W w ∧ base ≤ w.heap.size
theorem nm_apart {R p m base j : Nat} {v bv t8 : Value} {bs : List UInt8} {s : St} {w : World} {xs : List Value} (_ : RdAt w R p m v bv bs s) (ho : w.ownsRow base 5 1 t8 j xs) (hb : ∀ i, foot R p m v i → i < base) : ∀ b, t8.ownBlock = some b → ¬ foot R p m v b := fun b e k => by
  have := (ho.lt b e).1
  have := hb b k
  omega
theorem nm_step {R p m base j : Nat} {v bv t8 : Value} {bs : List UInt8} {s : St} {w wr w6 w7 : World} {o : Obj} {xs : List Value} (hR : RdAt w6 R p m v bv bs s) (ho : w6.ownsRow base 5 1 t8 j xs) (hf : ∀ i, foot R p m v i → i < base) (hb : ∀ i, bv.ownBlock = some i → 0 < bs.length → i < base)
    (hT : Turn (fun i => i = R) w wr) (hT6 : Turn (fun i => i = R) wr w6) (hg : (w6.alloc o).grownBy w7 t8.ownBlock) (hw : w.heap.size ≤ base) : RdAt w7 R p m v bv bs s ∧ Turn (fun i => i = R) w w7 ∧ w6.heap.size ≤ w7.heap.size := by
  have hsz : w6.heap.size ≤ w7.heap.size := by have := hg.size; simp at this; omega
  have hkeep : ∀ i, i < w6.heap.size → (t8.ownBlock ≠ some i) → w7.heap[i]? = w6.heap[i]? := fun i hi hn => (hg.block i (by simp; omega) (fun e => hn e.symm)).trans (Below.heap_alloc w6 o i hi)
  refine ⟨hR.keep fun i hi hl => hkeep i hl fun e => ?_, (hT.trans hT6).andThen (S' := fun i => t8.ownBlock = some i) ?_ (fun i e => .inr (by have := (ho.lt i e).1; omega)), hsz⟩
  · have := (ho.lt i e).1
    rcases hi with hi | ⟨hi, hp⟩
    · have := hf i hi; omega
    · have := hb i hi hp; omega
  · exact (Turn.alloc _ w6 o).trans (Turn.of_grownBy hg)
set_option maxHeartbeats 2000000 in
theorem name_new (R p m : Nat) (v bv : Value) (bs : List UInt8) (s s1 : St) (w : World) (h : RdAt w R p m v bv bs s) (hw : wideN bs s = .ok (s1.names.length, s1)) (hn : s1.names.length < 4096) :
    Calls Try.prog 30 #[.pointer (some ⟨R, 0, none⟩)] w (P2 R p m v bv bs w .string (nameP bs s)) := by
  have HN := Lib.hid (show nameP bs s = nameK bs s1.names.length s1 by rw [nameP_eq, hw])
  have H1 := wide_any R p m v bv bs s w h
  rw [hw] at H1
  have HW := Lib.hid H1
  clear H1 hw h
  go_enter Try.func30, Try.ntmps30
  go_wp2_with fail
  refine HW.out.mono ?_
  rintro e w1 ⟨rfl, hR1, hT1⟩
  have HR1 := Lib.hid hR1
  have HT1 := Lib.hid hT1
  have HL := Lib.hid (len_any p m v s1.names w1 hR1.tab)
  have r3 := hR1.c3
  have f0 := wrap_u64_nat s1.names.length (by omega)
  clear hR1 hT1 HW
  go_wp2_with fail
  refine HL.out.mono ?_
  rintro e w2 ⟨rfl, rfl⟩
  clear HL
  have hle : ((s1.names.length : Int) ≤ (s1.names.length : Int)) := by omega
  have hlt : decide (s1.names.length < s1.names.length) = false := decide_eq_false (by omega)
  go_wp2_with fail
  refine (must_yes _ _).mono ?_
  rintro e w3 ⟨rfl, rfl⟩
  have H2 := one_any R p m v bv bs s1 _ HR1.out
  cases ho : oneP bs s1 with
  | error x =>
    have HK := Lib.hid (show nameK bs s1.names.length s1 = .error x by unfold nameK; rw [if_neg (by omega), if_neg (by omega), ho])
    rw [ho] at H2
    have HO := Lib.hid H2
    clear H2 ho
    go_wp2_with fail
    refine HO.out.mono ?_
    rintro e w4 ⟨rfl, hT4⟩
    have HT4 := Lib.hid hT4
    clear hT4
    go_wp2_with fail
    refine ⟨rfl, ?_⟩
    rw [HN.out, HK.out]
    exact ⟨rfl, turnR (HT1.out.trans HT4.out)⟩
  | ok y =>
    obtain ⟨size, s2⟩ := y
    obtain ⟨hsz, hs2, _⟩ := oneP_ok ho
    have hnm := Lib.hid (show s2.names = s1.names by rw [hs2])
    have HK := Lib.hid (show nameK bs s1.names.length s1 = if size < 1 ∨ 32 < size then .error 73
      else match someP bs size s2 with
        | .error e => .error e
        | .ok (l, s) =>
          if nameB ⟨l.toArray⟩ = true ∧ pos s.names ⟨l.toArray⟩ = none then .ok (⟨l.toArray⟩, { s with names := s.names ++ [⟨l.toArray⟩] })
          else .error 73 by unfold nameK; rw [if_neg (by omega), if_neg (by omega), ho]; rfl)
    rw [ho] at H2
    have HO := Lib.hid H2
    have f1 : IntKind.i64.wrap (size : Int) = size := IntWalk.i64_in _ (by omega)
    clear H2 ho hs2
    go_wp2_with fail
    refine HO.out.mono ?_
    rintro e w4 ⟨rfl, hR4, hT4⟩
    have HR4 := Lib.hid hR4
    have HT4 := Lib.hid (HT1.out.trans hT4)
    clear hR4 hT4 HO HT1 HR1 r3
    by_cases hbad : size < 1 ∨ 32 < size
    · rw [if_pos hbad] at HK
      have hbb : decide ((1 : Int) ≤ (size : Int)) = false ∨ ((1 : Int) ≤ (size : Int) ∧ decide ((size : Int) ≤ 32) = false) := by
        rcases hbad with h | h
        · exact .inl (decide_eq_false (by omega))
        · exact .inr ⟨by omega, decide_eq_false (by omega)⟩
      clear hbad
      rcases hbb with hb | ⟨hb0, hb⟩
      all_goals
        go_wp2_with fail
        refine (must_no _ _).mono ?_
        rintro e w5 ⟨rfl, rfl⟩
        go_wp2_with fail
        refine ⟨rfl, ?_⟩
        rw [HN.out, HK.out]
        exact ⟨rfl, turnR HT4.out⟩
    · have hb0 : (1 : Int) ≤ (size : Int) := by omega
      have hb1 : (size : Int) ≤ 32 := by omega
      rw [if_neg hbad] at HK
      go_wp2_with fail
      refine (must_yes _ _).mono ?_
      rintro e w5 ⟨rfl, rfl⟩
      go_wp2_with fail
      obtain ⟨i0, hi, hz0, hz1, hz2⟩ := info_parts infoB
      have X1 := Lib.hid hi
      have X2 := Lib.hid hz0
      have X3 := Lib.hid hz1
      have X4 := Lib.hid hz2
      clear hi hz0 hz1 hz2
      have HBW := Lib.hid HR4.out.lt
      have HBB := Lib.hid HR4.out.blt
      have HWS := Lib.hid HT4.out.size
      go_loopw [8, 52] (fun t8 t52 wr => nmRel R p m v bv bs s2 w w5.heap.size size t8 t52 wr) (fun _ t52 _ => size - (intOf t52).toNat)
      case atStart => exact ⟨0, by omega, HR4.out.ile, rfl, World.ownsRow_nil _ _ _ _, HR4.out, HT4.out, Nat.le_refl _⟩
      case round =>
        obtain ⟨j, hj, hl, rfl, ho, hR, hT, hbs⟩ := hrel
        have HS := Lib.hid hbs
        clear hbs
        have HR := Lib.hid hR
        have HT := Lib.hid hT
        have HL := Lib.hid hl
        have HO := Lib.hid ho
        clear hR hT hl ho
        by_cases hlt : j < size
        · have hj1 : (j : Int) < (size : Int) := by omega
          by_cases hi : s2.i + j < bs.length
          · have H1 := Lib.hid (one_yes R p m v bv bs _ wr HR.out hi)
            have HTk := Lib.hid (tk_succ hi)
            go_wp2_with fail
            refine H1.out.mono ?_
            rintro e w6 ⟨rfl, hR6, hT6⟩
            have HR6 := Lib.hid hR6
            have HT6 := Lib.hid hT6
            have HO6 := Lib.hid (row_same HO.out (fun b e hb => hT6.block b hb (fun k => nm_apart HR.out HO.out HBW.out b e (.inl k))))
            clear hT6 hR6
            go_wp2_with (at_builtin; refine wpList_app _ rfl (.tmp 54) (.tmp 57) 22 22 rfl w5.heap.size 5 i0 (.int .u8 0) 1 1 Try.underlying22 X1.out X2.out X3.out X4.out rfl (by decide) _ _ _ rfl (HO6.out.alloc _) _ 1 [cellB bs[s2.i + j]] rfl (src_one _ Try.underlying22 _ _ rfl) (by unfold maxLen; omega) (by omega) (by have := HS.out; have := HT6.out.size; simp; omega) ?_; intro a7 c7 w7 ho7 hg7 hn7 hl7; have HO7 := Lib.hid ho7; have HG7 := Lib.hid hg7; clear ho7 hg7 hn7 hl7)
            obtain ⟨q1, q2, q3⟩ := nm_step HR6.out HO6.out HBW.out HBB.out HT.out HT6.out HG7.out HWS.out
            have Q1 := Lib.hid q1
            have Q2 := Lib.hid q2
            have Q3 := Lib.hid (show w5.heap.size ≤ w7.heap.size by have := HS.out; have := HT6.out.size; omega)
            clear q1 q2 q3
            go_round
            case rel =>
              refine ⟨j + 1, by omega, by omega, by go_num, ?_, Q1.out, Q2.out, Q3.out⟩
              rw [HTk.out, List.map_append]
              exact HO7.out
            case measure => simp [intOf]; omega
          · have H1 := Lib.hid (one_no R p m v bv bs _ wr HR.out hi)
            have HW := Lib.hid (show someP bs size s2 = .error 72 by unfold someP; rw [if_neg (by omega)])
            go_wp2_with fail
            refine H1.out.mono ?_
            rintro e w6 ⟨rfl, hT6⟩
            have HT6 := Lib.hid hT6
            clear hT6
            go_wp2_with fail
            refine ⟨rfl, ?_⟩
            rw [HN.out, HK.out, HW.out]
            exact ⟨rfl, turnR (HT.out.trans HT6.out)⟩
        · obtain rfl : j = size := by omega
          have HW := Lib.hid (show someP bs j s2 = .ok ((bs.drop s2.i).take j, { s2 with i := s2.i + j }) by unfold someP; rw [if_pos HL.out])
          rw [HW.out] at HK
          have hlen := tk_len HL.out
          generalize (bs.drop s2.i).take j = l at *
          have r3 := HR.out.c3
          obtain ⟨g, c, hg, rfl⟩ : ∃ g c, g < wr.heap.size ∧ u8 = .slice (some ⟨g, 0, none⟩) j c := by
            rcases HO.out.2 with ⟨_, h0⟩ | ⟨g, cap, cur, hv, _, hh, _⟩
            · omega
            · exact ⟨g, cap, (Array.getElem?_eq_some_iff.1 hh).1, hv⟩
          have HCell := Lib.hid (show ∀ k (hk : k < l.length), wr.cell? ⟨g, k, none⟩ = some (.int .u8 (l[k].toNat : Int)) from fun k hk => by
            have := HO.out.cells (g := g) rfl k (cellB l[k]) (by simp [hk])
            simpa [Addr.add_lit] using this)
          have hcv : ∀ q, (convert 22 9 (.slice (some ⟨g, 0, none⟩) j c)).run Try.prog (wr.drewN q) = .ok (.string ⟨l.toArray⟩) (wr.drewN q) := fun q => by
            rw [← hlen]
            exact run_convert_bytes_back (wr.drewN q) 22 9 5 ⟨g, 0, none⟩ c l Try.underlying22 Try.underlying5 Try.underlying9 (fun k hk => by rw [Addr.add_lit, Nat.zero_add]; exact HCell.out k hk)
          have hsm : (⟨l.toArray⟩ : ByteArray).size ≤ maxLen := by show l.toArray.size ≤ maxLen; unfold maxLen; simp; omega
          have HF := Lib.hid (fun q => (tfind_any p m v s2.names ⟨l.toArray⟩ (wr.drewN q) (HR.out.drewN q).tab hsm).mono fun e w' (h : RW _ _ e w') => (⟨h.1, h.2.symm⟩ : e = .returned (.tuple #[.int .i64 ((pos s2.names ⟨l.toArray⟩).getD 0 : Nat), .bool (pos s2.names ⟨l.toArray⟩).isSome]) ∧ w' = wr.drewN q))
          have HLn := Lib.hid hlen
          clear hlen
          go_wp2_with fail
          go_quiet (exact Calls.quiet_of_same (HF.out _))
          have HRq := Lib.hid (HR.out.drewN nq)
          have HTq := Lib.hid (HT.out.drewN nq)
          have HCq := Lib.hid (show ∀ k (hk : k < l.length), (wr.drewN nq).cell? ⟨g, k, none⟩ = some (.int .u8 (l[k].toNat : Int)) from HCell.out)
          have hgq : g < (wr.drewN nq).heap.size := hg
          have hgf := Lib.hid (show ¬ foot R p m v g from nm_apart HR.out HO.out HBW.out g rfl)
          have HL16 := Lib.hid HLn.out
          generalize wr.drewN nq = wq at *
          clear HF hcv HR HT HO HCell hg r3 HS HBB HBW HWS X1 X2 X3 X4
          cases hp : pos s2.names ⟨l.toArray⟩ with
          | some q =>
            have HK2 := Lib.hid (show nameK bs s1.names.length s1 = .error 73 by rw [HK.out]; simp [hp])
            have HP := Lib.hid hp
            clear hp HK
            go_wp2_with fail
            refine (must_no _ _).mono ?_
            rintro e w7 ⟨rfl, rfl⟩
            go_wp2_with fail
            refine ⟨rfl, ?_⟩
            rw [HN.out, HK2.out]
            exact ⟨rfl, turnR HTq.out⟩
          | none =>
            have HP := Lib.hid hp
            clear hp
            go_wp2_with fail
            refine (must_yes _ _).mono ?_
            rintro e w7 ⟨rfl, rfl⟩
            have r3 : w7.drew.cell? ⟨R, 3, none⟩ = some (.pointer (some ⟨p, 0, none⟩)) := HRq.out.c3
            have hcv : (convert 22 9 (.slice (some ⟨g, 0, none⟩) j c)).run Try.prog w7.drew = .ok (.string ⟨l.toArray⟩) w7.drew := by
              rw [← HL16.out]
              exact run_convert_bytes_back w7.drew 22 9 5 ⟨g, 0, none⟩ c l Try.underlying22 Try.underlying5 Try.underlying9 (fun k hk => by rw [Addr.add_lit, Nat.zero_add]; exact HCq.out k hk)
            have HPut := tput_any p m v s2.names ⟨l.toArray⟩ w7.drew (HRq.out.drewN 1).tab hsm
            unfold TPutPost at HPut
            have hn2 : s2.names.length < 4096 := by rw [hnm.out]; exact hn
            cases hb : nameB ⟨l.toArray⟩ with
            | false =>
              have e1 : putL s2.names ⟨l.toArray⟩ = (s2.names, 0, 30) := by simp [putL, hb]
              rw [e1] at HPut
              have HPu := Lib.hid HPut
              have HK2 := Lib.hid (show nameK bs s1.names.length s1 = .error 73 by rw [HK.out]; simp [hb])
              clear HPut e1 hb HK
              go_wp2_with fail
              go_region_with (refine HPu.out.mono ?_; rintro e w8 ⟨v', rfl, ht8, hT8, hv8⟩)
              all_goals
                have HT8 := Lib.hid (show Turn (foot R p m v) w w8 from (turnR (HTq.out.drewN 1)).trans (hT8.mono fun _ _ k => .inr k))
                clear ht8 hT8 hv8
                go_wp2_with fail
                refine (must_no _ _).mono ?_
                rintro e w9 ⟨rfl, rfl⟩
                go_wp2_with fail
                refine ⟨rfl, ?_⟩
                rw [HN.out, HK2.out]
                exact ⟨rfl, HT8.out⟩
            | true =>
              have e1 : putL s2.names ⟨l.toArray⟩ = (s2.names ++ [⟨l.toArray⟩], s2.names.length, 0) := by simp [putL, hb, HP.out, show ¬ s2.names.length = 4096 by omega]
              rw [e1] at HPut
              have HPu := Lib.hid HPut
              have HK2 := Lib.hid (show nameK bs s1.names.length s1 = .ok (⟨l.toArray⟩, { s2 with i := s2.i + j, names := s2.names ++ [⟨l.toArray⟩] }) by rw [HK.out]; simp [hb, HP.out])
              clear HPut e1 hb HK
              go_wp2_with fail
              go_region_with (refine HPu.out.mono ?_; rintro e w8 ⟨v', rfl, ht8, hT8, hv8⟩)
              all_goals
                have HT8 := Lib.hid (show Turn (foot R p m v) w w8 from (turnR (HTq.out.drewN 1)).trans (hT8.mono fun _ _ k => .inr k))
                have HR8 := Lib.hid ((HRq.out.drewN 1).put ht8 hT8 hv8)
                have HV8 := Lib.hid (show v'.ownBlock = v.ownBlock ∨ ∀ b, v'.ownBlock = some b → w.heap.size ≤ b from hv8.imp id fun k b e => Nat.le_trans HTq.out.size (k b e))
                have hcv8 : (convert 22 9 (.slice (some ⟨g, 0, none⟩) j c)).run Try.prog w8 = .ok (.string ⟨l.toArray⟩) w8 := by
                  rw [← HL16.out]
                  exact run_convert_bytes_back w8 22 9 5 ⟨g, 0, none⟩ c l Try.underlying22 Try.underlying5 Try.underlying9 (fun k hk => by
                    rw [Addr.add_lit, Nat.zero_add]
                    exact (World.cell?_of_block (w := w7.drew) (hT8.block g hgq (fun k => hgf.out (.inr k)))).trans (HCq.out k hk))
                clear ht8 hT8 hv8 hcv r3
                go_wp2_with fail
                refine (must_yes _ _).mono ?_
                rintro e w9 ⟨rfl, rfl⟩
                go_wp2_with fail
                go_ret
                rw [HN.out, HK2.out]
                exact ⟨v', rfl, HR8.out, HT8.out, HV8.out⟩
theorem rname_any (R p m : Nat) (v bv : Value) (bs : List UInt8) (s : St) (w : World) (h : RdAt w R p m v bv bs s) (hn : s.names.length < 4096) :
    Calls Try.prog 30 #[.pointer (some ⟨R, 0, none⟩)] w (P2 R p m v bv bs w .string (nameP bs s)) := by
  cases hw : wideN bs s with
  | error x => exact name_err R p m v bv bs s x w h hw
  | ok y =>
    obtain ⟨k, s1⟩ := y
    have hnm := (wide_names 10 0 0 s s1 k hw).1
    by_cases hk : k = s1.names.length
    · subst hk
      exact name_new R p m v bv bs s s1 w h hw (by rw [hnm]; exact hn)
    · exact name_low R p m v bv bs s s1 k w h hw hk
end Go.Proofs.Ytkfblapfphnggaa
/- reader.part: what it leaves; small facts. -/
namespace Go.Proofs.Ytkfblapfphnggaa
open Go.RowKit
set_option maxRecDepth 100000
attribute [local go_sem] run_store_complex

abbrev zC : Array Value := #[.int .i64 0, .int .i64 0, .complex .f64 0 0, .string ⟨#[]⟩, .int .i64 0, .int .u32 0, .int .u64 0, nilV, nilV]
/-- what has been read so far, in blocks of its own -/
def own (N R p m : Nat) (v : Value) (b : Nat) : Prop := N ≤ b ∧ ¬ foot R p m v b
/-- HOW THE READER OF A PART ENDS -/
def PartPost (R p m : Nat) (v bv : Value) (bs : List UInt8) (W : World) (r : Except Int (Tm × St)) (e : Ending) (w' : World) : Prop :=
  match r with
  | .ok (t, s') => ∃ v' c, e = .returned (.agg c) ∧ RdAt w' R p m v' bv bs s' ∧ Turn (foot R p m v) W w' ∧ (v'.ownBlock = v.ownBlock ∨ ∀ b, v'.ownBlock = some b → W.heap.size ≤ b) ∧ Rep w' (own W.heap.size R p m v') t c
  | .error x => e = .panicked (thrown x) ∧ Turn (foot R p m v) W w'
theorem NineAt.of_block {w : World} {b : Nat} {k n : Int} {re im : Nat} {s : ByteArray} {node boot idn : Int} {bv lv : Value} {t : TypeId} (h : w.heap[b]? = some (.cells #[.int .i64 k, .int .i64 n, .complex .f64 re im, .string s, .int .i64 node, .int .u32 boot, .int .u64 idn, bv, lv] t (0, 0))) : NineAt w b k n re im s node boot idn bv lv := by
  refine ⟨?_, ?_, ?_, ?_, ?_, ?_, ?_, ?_, ?_⟩ <;> simp [World.cell?, h]
theorem blk_lt {w : World} {b : Nat} {o : Obj} (h : w.heap[b]? = some o) : b < w.heap.size := (Array.getElem?_eq_some_iff.1 h).1
theorem xor_zero (a : Nat) (ha : a < 9223372036854775808) : bits .xor .i64 (a : Int) 0 = a := by
  have : a % 2 ^ 64 = a := Nat.mod_eq_of_lt (by omega)
  have e0 : BitVec.ofInt 64 0 = 0#64 := by decide
  show IntKind.i64.wrap ((BitVec.ofInt 64 (a : Int) ^^^ BitVec.ofInt 64 0).toNat : Int) = a
  rw [e0, BitVec.xor_zero, BitVec.ofInt_natCast, BitVec.toNat_ofNat, this, IntKind.wrap_i64]
  omega
theorem xor_ones (a : Nat) (ha : a < 9223372036854775808) : bits .xor .i64 (a : Int) (-1) = -(a : Int) - 1 := by
  have h := i64_not a ha
  have c : bits .xor .i64 (a : Int) (-1) = bits .xor .i64 (-1) (a : Int) := by
    simp only [bits]
    rw [BitVec.xor_comm]
  rw [c, h]
  omega
theorem zig_eq (u : Nat) (hu : u < 18446744073709551616) : bits .xor .i64 ((u : Int) / 2) (wrap64 (-wrap64 (bits .and .u64 (u : Int) 1))) = zig u := by
  have h1 := bits_mask .u64 64 (by decide) wraps_u64 1 (by decide) (u : Int) (by omega) (by omega)
  rw [show ((2 : Int) ^ 1 - 1) = 1 by decide] at h1
  rw [h1]
  have e2 : ((u : Int) / 2) = ((u / 2 : Nat) : Int) := by simp
  rw [e2]
  have hl : u / 2 < 9223372036854775808 := by omega
  unfold zig
  rcases Nat.mod_two_eq_zero_or_one u with h | h
  · have : ((u : Int) % 2 ^ 1) = 0 := by omega
    rw [this, if_neg (by omega), show wrap64 (-wrap64 0) = 0 by unfold wrap64; omega]
    exact xor_zero _ hl
  · have : ((u : Int) % 2 ^ 1) = 1 := by omega
    rw [this, if_pos h, show wrap64 (-wrap64 1) = -1 by unfold wrap64; omega]
    exact xor_ones _ hl
theorem setRow_turn (w : World) (g : Nat) (cs : Array Value) : Turn (fun i => i = g) w (w.setRow g cs) :=
  ⟨rfl, rfl, rfl, by simp [World.setRow], fun k _ hk => setRow_other w g k _ hk⟩
/-- the result's block is written: all else stays -/
theorem rp_close {R p m N : Nat} {v v' bv : Value} {bs : List UInt8} {s s' : St} {w wE : World} {t : Tm} {c cs : Array Value} (h : RdAt w R p m v bv bs s) (hR : RdAt wE R p m v' bv bs s') (hT : Turn (foot R p m v) w wE) (hN : w.heap.size = N) (hv : v'.ownBlock = v.ownBlock ∨ ∀ b, v'.ownBlock = some b → N < b)
    (hrep : Rep wE (own (N + 1) R p m v') t c) : RdAt (wE.setRow N cs) R p m v' bv bs s' ∧ Turn (foot R p m v) w (wE.setRow N cs) ∧ (v'.ownBlock = v.ownBlock ∨ ∀ b, v'.ownBlock = some b → w.heap.size ≤ b) ∧ Rep (wE.setRow N cs) (own w.heap.size R p m v') t c := by
  subst hN
  have hne : ∀ i, foot R p m v' i → i ≠ w.heap.size := by
    rintro i (hi | hi | hi | hi)
    · have := h.lt i (.inl hi); omega
    · have := h.lt i (.inr (.inl hi)); omega
    · have := h.lt i (.inr (.inr (.inl hi))); omega
    · rcases hv with hv | hv
      · have := h.lt i (.inr (.inr (.inr (hv.symm.trans hi)))); omega
      · have := hv i hi; omega
  refine ⟨hR.keep fun i hi _ => setRow_other _ _ _ _ ?_, hT.andThen (setRow_turn wE _ cs) (fun i e => .inr (by omega)), hv.imp id fun k b e => Nat.le_of_lt (k b e), ?_⟩
  · rcases hi with hi | ⟨hi, hp⟩
    · exact hne i hi
    · have := h.blt i hi hp; omega
  · refine Rep.mono (F := own (w.heap.size + 1) R p m v') (fun b e _ => ⟨by have := e.1; omega, e.2⟩) _ _ (Rep.keep (fun b e _ => setRow_other _ _ _ _ (by have := e.1; omega)) _ _ hrep)
theorem setRow_nine {w : World} {N : Nat} {k n : Int} {re im : Nat} {s : ByteArray} {node boot idn : Int} {bv lv : Value} {t : TypeId} {old : Array Value} (h : w.heap[N]? = some (.cells old t (0, 0))) : NineAt (w.setRow N #[.int .i64 k, .int .i64 n, .complex .f64 re im, .string s, .int .i64 node, .int .u32 boot, .int .u64 idn, bv, lv]) N k n re im s node boot idn bv lv :=
  NineAt.of_block (setRow_heap w N old _ t _ h)
theorem blk_fz {w : World} {b : Nat} {cs : Array Value} {t : TypeId} (h : w.heap[b]? = some (.cells cs t (0, 0))) (o : Nat) : w.frozen? ⟨b, o, none⟩ = false := by simp [World.frozen?, h]
/-- a block that is newer than the reader -/
theorem apartT {R p m T : Nat} {v v' bv : Value} {bs : List UInt8} {s : St} {w : World} (h : RdAt w R p m v bv bs s) (hT : w.heap.size ≤ T) (hv : v'.ownBlock = v.ownBlock ∨ ∀ b, v'.ownBlock = some b → T < b) : ∀ i, foot R p m v' i ∨ (bv.ownBlock = some i ∧ 0 < bs.length) → ¬ i = T := by
  rintro i (hi | ⟨hi, hp⟩) e
  · rcases hi with hi | hi | hi | hi
    · have := h.lt i (.inl hi); omega
    · have := h.lt i (.inr (.inl hi)); omega
    · have := h.lt i (.inr (.inr (.inl hi))); omega
    · rcases hv with hv | hv
      · have := h.lt i (.inr (.inr (.inr (hv.symm.trans hi)))); omega
      · have := hv i hi; omega
  · have := h.blt i hi hp; omega
theorem rd_setT {R p m T o : Nat} {v v' bv u : Value} {bs : List UInt8} {s s' : St} {w w5 : World} (h : RdAt w R p m v bv bs s) (hR : RdAt w5 R p m v' bv bs s') (hT : w.heap.size ≤ T) (hv : v'.ownBlock = v.ownBlock ∨ ∀ b, v'.ownBlock = some b → T < b) : RdAt (w5.setCell ⟨T, o, none⟩ u) R p m v' bv bs s' :=
  hR.keep fun i hi _ => Below.heap_setCell _ _ _ _ (apartT h hT hv i hi)
theorem turn_setT {R p m T o : Nat} {v u : Value} {w w5 : World} (h : Turn (foot R p m v) w w5) (hT : w.heap.size ≤ T) : Turn (foot R p m v) w (w5.setCell ⟨T, o, none⟩ u) :=
  h.andThen (Turn.setCell w5 T o u) (fun i e => .inr (by omega))
theorem Rep.leaf {w : World} {F : Nat → Prop} {h : Hd} (hb : h.b = []) : Rep w F (.mk h []) (hdC h nilV nilV) := ⟨nilV, nilV, rfl, by rw [hb]; exact Row.nil _ _ _ _, [], Row.nil _ _ _ _, rfl⟩
theorem some16_err1 {bs : List UInt8} {s : St} {x : Int} (h : someP bs 8 s = .error x) : x = 72 ∧ someP bs 16 s = .error x := by
  unfold someP at h ⊢
  split at h
  · cases h
  · cases h
    exact ⟨rfl, by rw [if_neg (by omega)]⟩
theorem some16_err2 {bs l : List UInt8} {s s2 : St} {x : Int} (h : someP bs 8 s = .ok (l, s2)) (h2 : someP bs 8 s2 = .error x) : someP bs 16 s = .error x := by
  unfold someP at h h2 ⊢
  split at h
  · cases h
    split at h2
    · cases h2
    · cases h2
      rename_i h3
      simp only at h3
      rw [if_neg (by omega)]
  · cases h
theorem some16_ok {bs l1 l2 : List UInt8} {s s2 s3 : St} (h : someP bs 8 s = .ok (l1, s2)) (h2 : someP bs 8 s2 = .ok (l2, s3)) : someP bs 16 s = .ok (l1 ++ l2, s3) ∧ l1.length = 8 ∧ l2.length = 8 := by
  unfold someP at h h2 ⊢
  split at h
  · cases h
    split at h2
    · cases h2
      rename_i h3
      simp only at h3
      rw [if_pos (by omega)]
      refine ⟨?_, by simp; omega, by simp; omega⟩
      congr 2
      simp only
      rw [← List.drop_drop, ← List.take_add]
    · cases h2
  · cases h
theorem kind2_eq {bs : List UInt8} {sub : Rd Tm} {s s2 s3 : St} {l1 l2 : List UInt8} (h : someP bs 8 s = .ok (l1, s2)) (h2 : someP bs 8 s2 = .ok (l2, s3)) :
    kindP bs sub 2 s = if (okF (wordOf l1) && okF (wordOf l2)) = true then .ok (.mk { kind := 2, re := wordOf l1, im := wordOf l2 } [], s3) else .error 73 := by
  obtain ⟨h3, h4, h5⟩ := some16_ok h h2
  have e1 : (l1 ++ l2).take 8 = l1 := by rw [← h4]; exact List.take_left
  have e2 : (l1 ++ l2).drop 8 = l2 := by rw [← h4]; exact List.drop_left
  unfold kindP
  rw [if_neg (by decide), if_pos rfl, h3]
  simp only [e1, e2, Bool.and_eq_true]
theorem word8 {bs l : List UInt8} {s s2 : St} (h : someP bs 8 s = .ok (l, s2)) : wordOf l < 18446744073709551616 := by
  unfold someP at h
  split at h
  · rename_i hle
    cases h
    have := wordOf_lt ((bs.drop s.i).take 8)
    have hl : ((bs.drop s.i).take 8).length = 8 := by simp; omega
    rw [hl] at this
    exact this
  · cases h
theorem some_no {bs : List UInt8} {s : St} {j k : Nat} (hj : j < k) (h : ¬ s.i + j < bs.length) : someP bs k s = .error 72 := by unfold someP; rw [if_neg (by omega)]
theorem some_yes {bs : List UInt8} {s : St} {k : Nat} (h : s.i + k ≤ bs.length) : someP bs k s = .ok ((bs.drop s.i).take k, { s with i := s.i + k }) := by unfold someP; rw [if_pos h]
/-- what the block of the part, its reader and the row of its bytes are behind an append -/
theorem app_keep {w6 w7 : World} {o : Obj} {B e size n : Nat} {u : Value} {xs : List Value} (ho : w6.ownsRow B e size u n xs) (hg : (w6.alloc o).grownBy w7 u.ownBlock) : (∀ i, i < B → i < w6.heap.size → w7.heap[i]? = w6.heap[i]?) ∧ w6.heap.size ≤ w7.heap.size ∧ Turn (fun i => u.ownBlock = some i) w6 w7 := by
  have hsz : w6.heap.size ≤ w7.heap.size := by have := hg.size; simp at this; omega
  refine ⟨fun i hB hi => (hg.block i (by simp; omega) (fun e => by have := (ho.lt i e.symm).1; omega)).trans (Below.heap_alloc w6 o i hi), hsz, (Turn.alloc _ w6 o).trans (Turn.of_grownBy hg)⟩
end Go.Proofs.Ytkfblapfphnggaa
/- General laws, of no program: an append as one step of a region that draws its order. -/
namespace Go.Proofs.Ytkfblapfphnggaa
open Go.RowKit

/-- append AS ONE STEP OF A REGION THAT DRAWS -/
theorem step_app {P : Program} {ops : Array Oper} {o : Oper} {a : Act} {w : World} {K : Act → World → Prop} {Q : Exit → Act → World → Prop} {E : Prop} (hgd : o.guard = none) (s x : Operand) (t tx : TypeId)
    (ho : o.op = .call { callee := .builtin .append, args := #[s, x], argTypes := #[t, tx] })
    (base : Nat) (e : TypeId) (i : TypeInfo) (z : Value) (size bytes : Nat) (ht : P.underlying t = some (.slice e)) (hi : P.info? e = some i) (hz : i.zero = some z)
    (hsize : i.size = size) (hby : i.bytes = bytes) (hzs : z.cells.size = size) (hsz : 0 < size)
    (v : Value) (n : Nat) (xs : List Value) (hs : a.eval s = v) (hown : w.ownsRow base e size v n xs) (u : Value) (m : Nat) (news : List Value) (hx : a.eval x = u) (hsrc : Src P size tx u m news w)
    (h63 : n + m ≤ maxLen) (hbytes : (n + m) * bytes ≤ 140737488355328) (hbase : base ≤ w.heap.size)
    (h : ∀ (a' : Option Addr) (c' : Nat) w', w'.ownsRow base e size (.slice a' (n + m) c') (n + m) (xs ++ news) → w.grownBy w' v.ownBlock → ((Value.slice a' (n + m) c').ownBlock = v.ownBlock ∨ (Value.slice a' (n + m) c').ownBlock = some w.heap.size) → K (a.put o.dst (.slice a' (n + m) c')) w') :
    if Region.wanted o (yielded ops a.tmps) = true then Oper.wp P o a w K Q else E := by
  have hw : Region.wanted o (yielded ops a.tmps) = true := by simp [Region.wanted, hgd]
  rw [if_pos hw]
  obtain ⟨v', w', hr, h2, h3, _, h5⟩ := run_append_own_src (P := P) w base t tx o.type e i z size bytes ht hi hz hsize hby hzs hsz v n xs hown u m news hsrc h63 hbytes hbase
  obtain ⟨a', c', rfl⟩ : ∃ a' c', v' = .slice a' (n + m) c' := by
    rcases h2.2 with ⟨rfl, h0⟩ | ⟨g, cap, cur, rfl, _⟩
    · exact ⟨none, 0, by rw [h0]⟩
    · exact ⟨_, _, rfl⟩
  unfold Oper.wp execOp
  simp only [ho, resolve, invoke, builtin, Sem.run_bind, Sem.run_pure, Result.andThen_ok, List.map_toArray, List.map_cons, List.map_nil, hs, hx, hr]
  exact h a' c' w' h2 h3 h5
/-- 'string(b)', the bytes b lying as ns says -/
theorem run_string_of {P : Program} (w : World) {src dst e : TypeId} (hs : P.underlying src = some (.slice e)) (he : P.underlying e = some (.int .u8)) (hd : P.underlying dst = some .string) (a : Addr) (n c : Nat) (ns : List Int) (hn : ns.length = n)
    (h : ∀ j u, (ns.map (Value.int .u8))[j]? = some u → w.cell? (a.add j) = some u) :
    (convert src dst (.slice (some a) n c)).run P w = .ok (.string (ns.foldl (fun r n => r.push (UInt8.ofNat n.toNat)) ByteArray.empty)) w := by
  rw [run_convert_bytes_string w src dst e (some a) n c hs he hd]
  refine run_bytesToString w a n c ns ?_
  have := run_firstCells_some (P := P) w 1 n a n c (ns.map (Value.int .u8)) (by simp [hn]) h
  simpa [Builtin.firstCells] using this
/-- 'string(b)' of one byte, as it was just laid -/
theorem run_string_one {P : Program} (w : World) {src dst e : TypeId} (hs : P.underlying src = some (.slice e)) (he : P.underlying e = some (.int .u8)) (hd : P.underlying dst = some .string) (x : Int) :
    (convert src dst (.slice (some ⟨w.heap.size, 0, none⟩) 1 1)).run P (w.alloc (.cells #[.int .u8 x] e)) = .ok (.string ⟨#[UInt8.ofNat x.toNat]⟩) (w.alloc (.cells #[.int .u8 x] e)) := by
  rw [run_string_of (w.alloc (.cells #[.int .u8 x] e)) hs he hd ⟨w.heap.size, 0, none⟩ 1 1 [x] rfl (cell_one_new _ _ _)]
  rfl
end Go.Proofs.Ytkfblapfphnggaa
