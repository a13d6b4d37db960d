/- Several texts in one. -/
import Derived.Test.YtgadkiljnebicaaD06
import Derived.Test.YtgadkiljnebicaaD03
import Derived.RegionCalls
import Derived.Deep.RegionWith
namespace Go.Proofs.Ytgadkiljnebicaa
open Go.Lib (hid)
open Go.RowKit
set_option maxRecDepth 100000
attribute [local go_sem] run_store_complex
abbrev vZ (k : Int) : Value := .agg #[.int .i64 k,.int .i64 0,.complex .f64 0 0,.string ⟨#[]⟩,.int .i64 0,.int .u32 0,.int .u64 0,nilV,nilV]
abbrev vA (s : ByteArray) : Value := .agg #[.int .i64 3,.int .i64 0,.complex .f64 0 0,.string s,.int .i64 0,.int .u32 0,.int .u64 0,nilV,nilV]
abbrev vI (k node boot idn : Int) : Value := .agg #[.int .i64 k,.int .i64 0,.complex .f64 0 0,.string ⟨#[]⟩,.int .i64 node,.int .u32 boot,.int .u64 idn,nilV,nilV]
abbrev vL (k : Int) (lv : Value) : Value := .agg #[.int .i64 k,.int .i64 0,.complex .f64 0 0,.string ⟨#[]⟩,.int .i64 0,.int .u32 0,.int .u64 0,nilV,lv]
abbrev vB (bv : Value) : Value := .agg #[.int .i64 8,.int .i64 0,.complex .f64 0 0,.string ⟨#[]⟩,.int .i64 0,.int .u32 0,.int .u64 0,bv,nilV]
theorem bare6 (n : Int) (w : World) : Calls Try.prog 69 #[v1 n] w (RB w (vZ 1)) := by
 go_enter Try.func69,Try.ntmps69
 go_wp2_with fail
 exact bodyPost_ret (v := vZ 1) (by simp [results,Try.results69,go_sem]) rfl ⟨rfl,((Below.refl w.heap.size w).alloc (Nat.le_refl _) _).alloc (by simp) _⟩
theorem bare7 (p q : Nat) (w : World) : Calls Try.prog 70 #[v2 p q] w (RB w (vZ 2)) := by
 go_enter Try.func70,Try.ntmps70
 go_wp2_with fail
 exact bodyPost_ret (v := vZ 2) (by simp [results,Try.results70,go_sem]) rfl ⟨rfl,((Below.refl w.heap.size w).alloc (Nat.le_refl _) _).alloc (by simp) _⟩
theorem bare8 (s : ByteArray) (w : World) : Calls Try.prog 71 #[vA s] w (RB w (vZ 3)) := by
 go_enter Try.func71,Try.ntmps71
 go_wp2_with fail
 exact bodyPost_ret (v := vZ 3) (by simp [results,Try.results71,go_sem]) rfl ⟨rfl,((Below.refl w.heap.size w).alloc (Nat.le_refl _) _).alloc (by simp) _⟩
theorem bare4 (k node boot idn : Int) (w : World) : Calls Try.prog 67 #[vI k node boot idn] w (RB w (vZ k)) := by
 go_enter Try.func67,Try.ntmps67
 go_wp2_with fail
 exact bodyPost_ret (v := vZ k) (by simp [results,Try.results67,go_sem]) rfl ⟨rfl,((Below.refl w.heap.size w).alloc (Nat.le_refl _) _).alloc (by simp) _⟩
theorem bare5 (k : Int) (a : Option Addr) (n c : Nat) (w : World) : Calls Try.prog 68 #[vL k (.slice a n c)] w (RB w (vZ k)) := by
 go_enter Try.func68,Try.ntmps68
 go_wp2_with fail
 exact bodyPost_ret (v := vZ k) (by simp [results,Try.results68,go_sem]) rfl ⟨rfl,((Below.refl w.heap.size w).alloc (Nat.le_refl _) _).alloc (by simp) _⟩
theorem bare10 (a : Option Addr) (n c : Nat) (w : World) : Calls Try.prog 74 #[vB (.slice a n c)] w (RB w (vZ 8)) := by
 go_enter Try.func74,Try.ntmps74
 go_wp2_with fail
 exact bodyPost_ret (v := vZ 8) (by simp [results,Try.results74,go_sem]) rfl ⟨rfl,((Below.refl w.heap.size w).alloc (Nat.le_refl _) _).alloc (by simp) _⟩
theorem empty_any (k : Int) (w : World) : Calls Try.prog 75 #[vZ k] w (RB w (.bool true)) := by
 have hcx := cx_eql
 go_enter Try.func75,Try.ntmps75
 go_wp2_with fail
 go_ret
 exact ⟨rfl,(Below.refl _ _).alloc (Nat.le_refl _) _⟩
theorem good1a (n : Int) (w : World) : Calls Try.prog 63 #[v1 n] w (RB w (.bool (inR n))) := by
 go_enter Try.func63,Try.ntmps63
 go_wp2_with fail
 refine (right1_any n _).mono ?_
 rintro e w1 ⟨rfl,hb1⟩
 have HB := hid hb1
 clear hb1
 go_wp2_with fail
 go_ret
 exact ⟨rfl,((Below.refl w.heap.size w).alloc (Nat.le_refl _) _).trans (HB.out.mono (by simp))⟩
theorem good1b (p q : Nat) (hp : p < 18446744073709551616) (hq : q < 18446744073709551616) (w : World) : Calls Try.prog 63 #[v2 p q] w (RB w (.bool (okF p && okF q))) := by
 have HR := hid (right2_any p q hp hq)
 clear hp hq
 generalize (okF p && okF q) = d at *
 go_enter Try.func63,Try.ntmps63
 go_wp2_with fail
 refine (HR.out _).mono ?_
 rintro e w1 ⟨rfl,hb1⟩
 have HB := hid hb1
 clear hb1
 go_wp2_with fail
 go_ret
 exact ⟨rfl,((Below.refl w.heap.size w).alloc (Nat.le_refl _) _).trans (HB.out.mono (by simp))⟩
abbrev vId (node boot idn : Int) : Value := .agg #[.int .i64 node,.int .u32 boot,.int .u64 idn]
theorem id_any (node boot idn : Int) (w : World) : Calls Try.prog 65 #[vId node boot idn] w (RB w (.bool (idOk node boot idn))) := by
 have hI := hid (show idOk node boot idn = decide (1 ≤ node ∧ node ≤ 64 ∧ 1 ≤ boot ∧ 1 ≤ idn) from rfl)
 rcases Int.lt_or_le node 1 with h1 | h1
 ·have hf : decide ((1 : Int) ≤ node) = false := decide_eq_false (by omega)
  go_enter Try.func65,Try.ntmps65
  go_wp2_with fail
  go_ret
  exact ⟨ret_bool (by rw [hI.out]; simp; omega),(Below.refl _ _).alloc (Nat.le_refl _) _⟩
 rcases Int.lt_or_le 64 node with h2 | h2
 ·have hf : decide (node ≤ (64 : Int)) = false := decide_eq_false (by omega)
  go_enter Try.func65,Try.ntmps65
  go_wp2_with fail
  go_ret
  exact ⟨ret_bool (by rw [hI.out]; simp; omega),(Below.refl _ _).alloc (Nat.le_refl _) _⟩
 rcases Int.lt_or_le boot 1 with h3 | h3
 ·have hf : decide ((1 : Int) ≤ boot) = false := decide_eq_false (by omega)
  go_enter Try.func65,Try.ntmps65
  go_wp2_with fail
  go_ret
  exact ⟨ret_bool (by rw [hI.out]; simp; omega),(Below.refl _ _).alloc (Nat.le_refl _) _⟩
 rcases Int.lt_or_le idn 1 with h4 | h4
 ·have hf : decide ((1 : Int) ≤ idn) = false := decide_eq_false (by omega)
  go_enter Try.func65,Try.ntmps65
  go_wp2_with fail
  go_ret
  exact ⟨ret_bool (by rw [hI.out]; simp; omega),(Below.refl _ _).alloc (Nat.le_refl _) _⟩
 ·go_enter Try.func65,Try.ntmps65
  go_wp2_with fail
  go_ret
  exact ⟨ret_bool (by rw [hI.out]; simp; omega),(Below.refl _ _).alloc (Nat.le_refl _) _⟩
theorem refid_any (node boot idn : Int) (w : World) : Calls Try.prog 34 #[vId node boot idn] w (RB w (.bool (idOk node boot idn))) := by
 have hI := hid (show idOk node boot idn = decide (1 ≤ node ∧ node ≤ 64 ∧ 1 ≤ boot ∧ 1 ≤ idn) from rfl)
 rcases Int.lt_or_le 0 node with h1 | h1
 ·rcases Int.lt_or_le 64 node with h2 | h2
  ·have hf : decide (node ≤ (64 : Int)) = false := decide_eq_false (by omega)
   go_enter Try.func34,Try.ntmps34
   go_wp2_with fail
   go_ret
   exact ⟨ret_bool (by rw [hI.out]; simp; omega),(Below.refl _ _).alloc (Nat.le_refl _) _⟩
  rcases Int.lt_or_le 0 boot with h3 | h3
  ·rcases Int.lt_or_le 0 idn with h4 | h4
   ·go_enter Try.func34,Try.ntmps34
    go_wp2_with fail
    go_ret
    exact ⟨ret_bool (by rw [hI.out]; simp; omega),(Below.refl _ _).alloc (Nat.le_refl _) _⟩
   ·have hf : decide ((0 : Int) < idn) = false := decide_eq_false (by omega)
    go_enter Try.func34,Try.ntmps34
    go_wp2_with fail
    go_ret
    exact ⟨ret_bool (by rw [hI.out]; simp; omega),(Below.refl _ _).alloc (Nat.le_refl _) _⟩
  ·have hf : decide ((0 : Int) < boot) = false := decide_eq_false (by omega)
   go_enter Try.func34,Try.ntmps34
   go_wp2_with fail
   go_ret
   exact ⟨ret_bool (by rw [hI.out]; simp; omega),(Below.refl _ _).alloc (Nat.le_refl _) _⟩
 ·have hf : decide ((0 : Int) < node) = false := decide_eq_false (by omega)
  go_enter Try.func34,Try.ntmps34
  go_wp2_with fail
  go_ret
  exact ⟨ret_bool (by rw [hI.out]; simp; omega),(Below.refl _ _).alloc (Nat.le_refl _) _⟩
theorem good2 (k node boot idn : Int) (w : World) : Calls Try.prog 64 #[vI k node boot idn] w (RB w (.bool (idOk node boot idn))) := by
 have HR := hid (id_any node boot idn)
 generalize idOk node boot idn = d at *
 go_enter Try.func64,Try.ntmps64
 go_wp2_with fail
 refine (HR.out _).mono ?_
 rintro e w1 ⟨rfl,hb1⟩
 have HB := hid hb1
 clear hb1
 go_wp2_with fail
 go_ret
 exact ⟨rfl,((Below.refl w.heap.size w).alloc (Nat.le_refl _) _).trans (HB.out.mono (by simp))⟩
theorem good3 (cs : Array Value) (w : World) : Calls Try.prog 66 #[.agg cs] w (RB w (.bool true)) := by
 go_enter Try.func66,Try.ntmps66
 go_wp2_with fail
 go_ret
 exact ⟨rfl,(Below.refl _ _).alloc (Nat.le_refl _) _⟩
end Go.Proofs.Ytgadkiljnebicaa
namespace Go.Proofs.Ytgadkiljnebicaa
open Go.Lib (hid)
open Go.RowKit
set_option maxRecDepth 100000
def tmnameRel (s : ByteArray) (r i : Value) : Prop := ∃ k : Nat,k ≤ s.size ∧ i = .int .i64 k ∧ r = .bool false ∧ okTo s k
set_option maxHeartbeats 1000000 in
theorem tmname_any (s : ByteArray) (w : World) (hs : s.size ≤ maxLen) :
    Calls Try.prog 73 #[.string s] w (RB w (.bool (nameB s))) := by
  unfold maxLen at hs
  by_cases h0 : s.size = 0
  · have hl := toList_nil h0
    go_enter Try.func73,Try.ntmps73
    go_wp2
    go_ret
    exact ⟨ret_bool (nameB_empty h0).symm,Below.refl _ _⟩
  · have hpos : 0 < s.size := by omega
    have hl := isEmpty_false h0
    by_cases h32 : 32 < s.size
    · go_enter Try.func73,Try.ntmps73
      go_wp2
      go_ret
      exact ⟨ret_bool (nameB_long h32).symm,Below.refl _ _⟩
    · have kc := Lib.run_convert_string_bytes (P := Try.prog) w 9 22 5 s Try.underlying9 Try.underlying22 Try.underlying5
      have hcell := Lib.bytesWorld_cell w 5 s
      have HB := hid (below_bytesWorld w 5 s)
      by_cases h1 : small (s.data.toList.getD 0 0).toNat = true
      · have HS := hid h1
        rw [getD_at s hpos] at h1
        simp [small] at h1
        have h1a : 97 ≤ ((s[0]'hpos).toNat : Int) := by have := h1.1; show 97 ≤ ((s.data[0]'hpos).toNat : Int); omega
        have h1b : ((s[0]'hpos).toNat : Int) ≤ 122 := by have := h1.2; show ((s.data[0]'hpos).toNat : Int) ≤ 122; omega
        clear h1
        go_enter Try.func73,Try.ntmps73
        go_wp2
        go_loop [2,4,26] (fun r _ i => tmnameRel s r i) (fun _ _ i => s.size - (intOf i).toNat)
        case atStart => exact ⟨0,Nat.zero_le _,rfl,rfl,okTo_zero s⟩
        case round =>
          obtain ⟨k,hk,rfl,rfl,hall⟩ := hrel
          have HA := hid hall
          clear hall
          by_cases hlt : k < s.size
          · have hc := hcell k hlt
            have HG := hid (getD_at s hlt)
            clear hcell
            rcases classes ((s.data[k]'hlt).toNat : Int) (by omega) with ⟨c1,c2,c3,d1,d2,d3⟩ | ⟨c1,c2,c3,d1,d2,d3⟩ | ⟨c1,c2,c3,d1,d2,d3⟩ | ⟨c1,c2,c3,d1,d2,d3⟩ | ⟨c1,c2,c3,d1,d2,d3⟩ | ⟨c1,c2,c3,d1,d2,d3⟩ | ⟨c1,c2,c3,d1,d2,d3⟩ | ⟨c1,c2,c3,d1,d2,d3⟩ | ⟨c1,c2,c3,d1,d2,d3⟩
            all_goals
              have C3 := hid c3
              go_wp2
              first
              | (go_ret
                 exact ⟨ret_bool (nameB_bad hlt (by rw [HG.out]; exact okb_not (by omega) (by omega) (by omega) (beq_eq_false_iff_ne.1 C3.out))).symm,HB.out⟩)
              | (go_round
                 case rel => exact ⟨k + 1,by omega,by go_num,rfl,okTo_succ HA.out (by rw [HG.out]; first | exact okb_of (by omega) | exact okb_of (.inr (.inr (.inr (beq_iff_eq.1 C3.out)))))⟩
                 case measure => simp [intOf]; omega)
          · go_wp2
            go_ret
            exact ⟨ret_bool (nameB_true hpos (by omega) HS.out (by obtain rfl : k = s.size := by omega
                                                                   exact HA.out)).symm,HB.out⟩
      · have h1' : small (s.data.toList.getD 0 0).toNat = false := by simpa using h1
        have HS := hid h1'
        rw [getD_at s hpos] at h1
        simp [small] at h1
        clear h1' hcell kc
        have h1' : 97 ≤ ((s[0]'hpos).toNat : Int) → 122 < ((s[0]'hpos).toNat : Int) := fun h => by
          have h3 : 97 ≤ ((s.data[0]'hpos).toNat : Int) := h
          show 122 < ((s.data[0]'hpos).toNat : Int)
          have := h1 (by omega)
          omega
        by_cases hlow : 97 ≤ ((s[0]'hpos).toNat : Int)
        · have h2 := h1' hlow
          clear h1 h1'
          go_enter Try.func73,Try.ntmps73
          go_wp2
          go_ret
          exact ⟨ret_bool (nameB_first HS.out).symm,Below.refl _ _⟩
        · clear h1 h1'
          go_enter Try.func73,Try.ntmps73
          go_wp2
          go_ret
          exact ⟨ret_bool (nameB_first HS.out).symm,Below.refl _ _⟩
theorem infoB : (Try.prog.info? 5).map (fun i => (i.zero,i.size,i.bytes)) = some (some (.int .u8 0),1,1) := by kernel_rfl
set_option maxHeartbeats 1000000 in
theorem name_err (R p m : Nat) (v bv : Value) (bs : List UInt8) (s : St) (x : Int) (w : World) (h : RdAt w R p m v bv bs s) (hw : wideN bs s = .error x) :
  Calls Try.prog 44 #[.pointer (some ⟨R,0,none⟩)] w (P2 R p m v bv bs w .string (nameP bs s)) := by
 have HN := hid (show nameP bs s = .error x by rw [nameP_eq,hw])
 have H1 := wide_any R p m v bv bs s w h
 rw [hw] at H1
 have HW := hid H1
 clear H1 hw h
 go_enter Try.func44,Try.ntmps44
 go_wp2_with fail
 refine HW.out.mono ?_
 rintro e w1 ⟨rfl,hT1⟩
 have HT1 := hid hT1
 clear hT1
 go_wp2_with fail
 refine ⟨rfl,?_⟩
 rw [HN.out]
 exact ⟨rfl,turnR HT1.out⟩
def nmRel (R p m : Nat) (v bv : Value) (bs : List UInt8) (s : St) (W : World) (base size : Nat) (t8 t52 : Value) (w : World) : Prop :=
 ∃ j : Nat,j ≤ size ∧ s.i + j ≤ bs.length ∧ t52 = .int .i64 j ∧ w.ownsRow base 5 1 t8 j (((bs.drop s.i).take j).map cellB) ∧ RdAt w R p m v bv bs { s with i := s.i + j } ∧ Turn (fun i => i = R) W w ∧ base ≤ w.heap.size
theorem nm_apart {R p m base j : Nat} {v bv t8 : Value} {bs : List UInt8} {s : St} {w : World} {xs : List Value} (_ : RdAt w R p m v bv bs s) (ho : w.ownsRow base 5 1 t8 j xs) (hb : ∀ i,foot R p m v i → i < base) : ∀ b,t8.ownBlock = some b → ¬ foot R p m v b := fun b e k => by
 have := (ho.lt b e).1
 have := hb b k
 omega
theorem nm_step {R p m base j : Nat} {v bv t8 : Value} {bs : List UInt8} {s : St} {w wr w6 w7 : World} {o : Obj} {xs : List Value} (hR : RdAt w6 R p m v bv bs s) (ho : w6.ownsRow base 5 1 t8 j xs) (hf : ∀ i,foot R p m v i → i < base) (hb : ∀ i,bv.ownBlock = some i → 0 < bs.length → i < base)
  (hT : Turn (fun i => i = R) w wr) (hT6 : Turn (fun i => i = R) wr w6) (hg : (w6.alloc o).grownBy w7 t8.ownBlock) (hw : w.heap.size ≤ base) : RdAt w7 R p m v bv bs s ∧ Turn (fun i => i = R) w w7 ∧ w6.heap.size ≤ w7.heap.size := by
 have hsz : w6.heap.size ≤ w7.heap.size := by have := hg.size; simp at this; omega
 have hkeep : ∀ i,i < w6.heap.size → (t8.ownBlock ≠ some i) → w7.heap[i]? = w6.heap[i]? := fun i hi hn => (hg.block i (by simp; omega) (fun e => hn e.symm)).trans (Below.heap_alloc w6 o i hi)
 refine ⟨hR.keep fun i hi hl => hkeep i hl fun e => ?_,(hT.trans hT6).andThen (S' := fun i => t8.ownBlock = some i) ?_ (fun i e => .inr (by have := (ho.lt i e).1; omega)),hsz⟩
 ·have := (ho.lt i e).1
  rcases hi with hi | ⟨hi,hp⟩
  ·have := hf i hi; omega
  ·have := hb i hi hp; omega
 ·exact (Turn.alloc _ w6 o).trans (Turn.of_grownBy hg)
set_option maxHeartbeats 2000000 in
theorem name_new (R p m : Nat) (v bv : Value) (bs : List UInt8) (s s1 : St) (w : World) (h : RdAt w R p m v bv bs s) (hw : wideN bs s = .ok (s1.names.length,s1)) (hn : s1.names.length < 4096) :
  Calls Try.prog 44 #[.pointer (some ⟨R,0,none⟩)] w (P2 R p m v bv bs w .string (nameP bs s)) := by
 have HN := hid (show nameP bs s = nameK bs s1.names.length s1 by rw [nameP_eq,hw])
 have H1 := wide_any R p m v bv bs s w h
 rw [hw] at H1
 have HW := hid H1
 clear H1 hw h
 go_enter Try.func44,Try.ntmps44
 go_wp2_with fail
 refine HW.out.mono ?_
 rintro e w1 ⟨rfl,hR1,hT1⟩
 have HR1 := hid hR1
 have HT1 := hid hT1
 have HL := hid (len_any p m v s1.names w1 hR1.tab)
 have r3 := hR1.c3
 have f0 := wrap_u64_nat s1.names.length (by omega)
 clear hR1 hT1 HW
 go_wp2_with fail
 refine HL.out.mono ?_
 rintro e w2 ⟨rfl,rfl⟩
 clear HL
 have hle : ((s1.names.length : Int) ≤ (s1.names.length : Int)) := by omega
 have hlt : decide (s1.names.length < s1.names.length) = false := decide_eq_false (by omega)
 go_wp2_with fail
 refine (must_yes _ _).mono ?_
 rintro e w3 ⟨rfl,rfl⟩
 have H2 := one_any R p m v bv bs s1 _ HR1.out
 cases ho : oneP bs s1 with
 | error x =>
  have HK := hid (show nameK bs s1.names.length s1 = .error x by unfold nameK; rw [if_neg (by omega),if_neg (by omega),ho])
  rw [ho] at H2
  have HO := hid H2
  clear H2 ho
  go_wp2_with fail
  refine HO.out.mono ?_
  rintro e w4 ⟨rfl,hT4⟩
  have HT4 := hid hT4
  clear hT4
  go_wp2_with fail
  refine ⟨rfl,?_⟩
  rw [HN.out,HK.out]
  exact ⟨rfl,turnR (HT1.out.trans HT4.out)⟩
 | ok y =>
  obtain ⟨size,s2⟩ := y
  obtain ⟨hsz,hs2,_⟩ := oneP_ok ho
  have hnm := hid (show s2.names = s1.names by rw [hs2])
  have HK := hid (show nameK bs s1.names.length s1 = if size < 1 ∨ 32 < size then .error 73
   else match someP bs size s2 with
    | .error e => .error e
    | .ok (l,s) =>
     if nameB ⟨l.toArray⟩ = true ∧ pos s.names ⟨l.toArray⟩ = none then .ok (⟨l.toArray⟩,{ s with names := s.names ++ [⟨l.toArray⟩] })
     else .error 73 by unfold nameK; rw [if_neg (by omega),if_neg (by omega),ho]; rfl)
  rw [ho] at H2
  have HO := hid H2
  have f1 : IntKind.i64.wrap (size : Int) = size := IntWalk.i64_in _ (by omega)
  clear H2 ho hs2
  go_wp2_with fail
  refine HO.out.mono ?_
  rintro e w4 ⟨rfl,hR4,hT4⟩
  have HR4 := hid hR4
  have HT4 := hid (HT1.out.trans hT4)
  clear hR4 hT4 HO HT1 HR1 r3
  by_cases hbad : size < 1 ∨ 32 < size
  ·rw [if_pos hbad] at HK
   have hbb : decide ((1 : Int) ≤ (size : Int)) = false ∨ ((1 : Int) ≤ (size : Int) ∧ decide ((size : Int) ≤ 32) = false) := by
    rcases hbad with h | h
    ·exact .inl (decide_eq_false (by omega))
    ·exact .inr ⟨by omega,decide_eq_false (by omega)⟩
   clear hbad
   rcases hbb with hb | ⟨hb0,hb⟩
   all_goals
    go_wp2_with fail
    refine (must_no _ _).mono ?_
    rintro e w5 ⟨rfl,rfl⟩
    go_wp2_with fail
    refine ⟨rfl,?_⟩
    rw [HN.out,HK.out]
    exact ⟨rfl,turnR HT4.out⟩
  ·have hb0 : (1 : Int) ≤ (size : Int) := by omega
   have hb1 : (size : Int) ≤ 32 := by omega
   rw [if_neg hbad] at HK
   go_wp2_with fail
   refine (must_yes _ _).mono ?_
   rintro e w5 ⟨rfl,rfl⟩
   go_wp2_with fail
   obtain ⟨i0,hi,hz0,hz1,hz2⟩ := info_parts infoB
   have X1 := hid hi
   have X2 := hid hz0
   have X3 := hid hz1
   have X4 := hid hz2
   clear hi hz0 hz1 hz2
   have HBW := hid HR4.out.lt
   have HBB := hid HR4.out.blt
   have HWS := hid HT4.out.size
   go_loopw [8,52] (fun t8 t52 wr => nmRel R p m v bv bs s2 w w5.heap.size size t8 t52 wr) (fun _ t52 _ => size - (intOf t52).toNat)
   case atStart => exact ⟨0,by omega,HR4.out.ile,rfl,World.ownsRow_nil _ _ _ _,HR4.out,HT4.out,Nat.le_refl _⟩
   case round =>
    obtain ⟨j,hj,hl,rfl,ho,hR,hT,hbs⟩ := hrel
    have HS := hid hbs
    clear hbs
    have HR := hid hR
    have HT := hid hT
    have HL := hid hl
    have HO := hid ho
    clear hR hT hl ho
    by_cases hlt : j < size
    ·have hj1 : (j : Int) < (size : Int) := by omega
     by_cases hi : s2.i + j < bs.length
     ·have H1 := hid (one_yes R p m v bv bs _ wr HR.out hi)
      have HTk := hid (tk_succ hi)
      go_wp2_with fail
      refine H1.out.mono ?_
      rintro e w6 ⟨rfl,hR6,hT6⟩
      have HR6 := hid hR6
      have HT6 := hid hT6
      have HO6 := hid (row_same HO.out (fun b e hb => hT6.block b hb (fun k => nm_apart HR.out HO.out HBW.out b e (.inl k))))
      clear hT6 hR6
      go_wp2_with (at_builtin; refine wpList_app _ rfl (.tmp 54) (.tmp 57) 22 22 rfl w5.heap.size 5 i0 (.int .u8 0) 1 1 Try.underlying22 X1.out X2.out X3.out X4.out rfl (by decide) _ _ _ rfl (HO6.out.alloc _) _ 1 [cellB bs[s2.i + j]] rfl (src_one _ Try.underlying22 _ _ rfl) (by unfold maxLen; omega) (by omega) (by have := HS.out; have := HT6.out.size; simp; omega) ?_; intro a7 c7 w7 ho7 hg7 hn7 hl7; have HO7 := hid ho7; have HG7 := hid hg7; clear ho7 hg7 hn7 hl7)
      obtain ⟨q1,q2,q3⟩ := nm_step HR6.out HO6.out HBW.out HBB.out HT.out HT6.out HG7.out HWS.out
      have Q1 := hid q1
      have Q2 := hid q2
      have Q3 := hid (show w5.heap.size ≤ w7.heap.size by have := HS.out; have := HT6.out.size; omega)
      clear q1 q2 q3
      go_round
      case rel =>
       refine ⟨j + 1,by omega,by omega,by go_num,?_,Q1.out,Q2.out,Q3.out⟩
       rw [HTk.out,List.map_append]
       exact HO7.out
      case measure => simp [intOf]; omega
     ·have H1 := hid (one_no R p m v bv bs _ wr HR.out hi)
      have HW := hid (show someP bs size s2 = .error 72 by unfold someP; rw [if_neg (by omega)])
      go_wp2_with fail
      refine H1.out.mono ?_
      rintro e w6 ⟨rfl,hT6⟩
      have HT6 := hid hT6
      clear hT6
      go_wp2_with fail
      refine ⟨rfl,?_⟩
      rw [HN.out,HK.out,HW.out]
      exact ⟨rfl,turnR (HT.out.trans HT6.out)⟩
    ·obtain rfl : j = size := by omega
     have HW := hid (show someP bs j s2 = .ok ((bs.drop s2.i).take j,{ s2 with i := s2.i + j }) by unfold someP; rw [if_pos HL.out])
     rw [HW.out] at HK
     have hlen := tk_len HL.out
     generalize (bs.drop s2.i).take j = l at *
     have r3 := HR.out.c3
     obtain ⟨g,c,hg,rfl⟩ : ∃ g c,g < wr.heap.size ∧ u8 = .slice (some ⟨g,0,none⟩) j c := by
      rcases HO.out.2 with ⟨_,h0⟩ | ⟨g,cap,cur,hv,_,hh,_⟩
      ·omega
      ·exact ⟨g,cap,(Array.getElem?_eq_some_iff.1 hh).1,hv⟩
     have HCell := hid (show ∀ k (hk : k < l.length),wr.cell? ⟨g,k,none⟩ = some (.int .u8 (l[k].toNat : Int)) from fun k hk => by
      have := HO.out.cells (g := g) rfl k (cellB l[k]) (by simp [hk])
      simpa [Addr.add_lit] using this)
     have hcv : ∀ q,(convert 22 9 (.slice (some ⟨g,0,none⟩) j c)).run Try.prog (wr.drewN q) = .ok (.string ⟨l.toArray⟩) (wr.drewN q) := fun q => by
      rw [← hlen]
      exact run_convert_bytes_back (wr.drewN q) 22 9 5 ⟨g,0,none⟩ c l Try.underlying22 Try.underlying5 Try.underlying9 (fun k hk => by rw [Addr.add_lit,Nat.zero_add]; exact HCell.out k hk)
     have hsm : (⟨l.toArray⟩ : ByteArray).size ≤ maxLen := by show l.toArray.size ≤ maxLen; unfold maxLen; simp; omega
     have HF := hid (fun q => (tfind_any p m v s2.names ⟨l.toArray⟩ (wr.drewN q) (HR.out.drewN q).tab hsm).mono fun e w' (h : RW _ _ e w') => (⟨h.1,h.2.symm⟩ : e = .returned (.tuple #[.int .i64 ((pos s2.names ⟨l.toArray⟩).getD 0 : Nat),.bool (pos s2.names ⟨l.toArray⟩).isSome]) ∧ w' = wr.drewN q))
     have HLn := hid hlen
     clear hlen
     go_wp2_with fail
     go_quiet (exact Calls.quiet_of_same (HF.out _))
     have HRq := hid (HR.out.drewN nq)
     have HTq := hid (HT.out.drewN nq)
     have HCq := hid (show ∀ k (hk : k < l.length),(wr.drewN nq).cell? ⟨g,k,none⟩ = some (.int .u8 (l[k].toNat : Int)) from HCell.out)
     have hgq : g < (wr.drewN nq).heap.size := hg
     have hgf := hid (show ¬ foot R p m v g from nm_apart HR.out HO.out HBW.out g rfl)
     have HL16 := hid HLn.out
     generalize wr.drewN nq = wq at *
     clear HF hcv HR HT HO HCell hg r3 HS HBB HBW HWS X1 X2 X3 X4
     cases hp : pos s2.names ⟨l.toArray⟩ with
     | some q =>
      have HK2 := hid (show nameK bs s1.names.length s1 = .error 73 by rw [HK.out]; simp [hp])
      have HP := hid hp
      clear hp HK
      go_wp2_with fail
      refine (must_no _ _).mono ?_
      rintro e w7 ⟨rfl,rfl⟩
      go_wp2_with fail
      refine ⟨rfl,?_⟩
      rw [HN.out,HK2.out]
      exact ⟨rfl,turnR HTq.out⟩
     | none =>
      have HP := hid hp
      clear hp
      go_wp2_with fail
      refine (must_yes _ _).mono ?_
      rintro e w7 ⟨rfl,rfl⟩
      have r3 : w7.drew.cell? ⟨R,3,none⟩ = some (.pointer (some ⟨p,0,none⟩)) := HRq.out.c3
      have hcv : (convert 22 9 (.slice (some ⟨g,0,none⟩) j c)).run Try.prog w7.drew = .ok (.string ⟨l.toArray⟩) w7.drew := by
       rw [← HL16.out]
       exact run_convert_bytes_back w7.drew 22 9 5 ⟨g,0,none⟩ c l Try.underlying22 Try.underlying5 Try.underlying9 (fun k hk => by rw [Addr.add_lit,Nat.zero_add]; exact HCq.out k hk)
      have HPut := tput_any p m v s2.names ⟨l.toArray⟩ w7.drew (HRq.out.drewN 1).tab hsm
      unfold TPutPost at HPut
      have hn2 : s2.names.length < 4096 := by rw [hnm.out]; exact hn
      cases hb : nameB ⟨l.toArray⟩ with
      | false =>
       have e1 : putL s2.names ⟨l.toArray⟩ = (s2.names,0,30) := by simp [putL,hb]
       rw [e1] at HPut
       have HPu := hid HPut
       have HK2 := hid (show nameK bs s1.names.length s1 = .error 73 by rw [HK.out]; simp [hb])
       clear HPut e1 hb HK
       go_wp2_with fail
       go_region_with (refine HPu.out.mono ?_; rintro e w8 ⟨v',rfl,ht8,hT8,hv8⟩)
       all_goals
        have HT8 := hid (show Turn (foot R p m v) w w8 from (turnR (HTq.out.drewN 1)).trans (hT8.mono fun _ _ k => .inr k))
        clear ht8 hT8 hv8
        go_wp2_with fail
        refine (must_no _ _).mono ?_
        rintro e w9 ⟨rfl,rfl⟩
        go_wp2_with fail
        refine ⟨rfl,?_⟩
        rw [HN.out,HK2.out]
        exact ⟨rfl,HT8.out⟩
      | true =>
       have e1 : putL s2.names ⟨l.toArray⟩ = (s2.names ++ [⟨l.toArray⟩],s2.names.length,0) := by simp [putL,hb,HP.out,show ¬ s2.names.length = 4096 by omega]
       rw [e1] at HPut
       have HPu := hid HPut
       have HK2 := hid (show nameK bs s1.names.length s1 = .ok (⟨l.toArray⟩,{ s2 with i := s2.i + j,names := s2.names ++ [⟨l.toArray⟩] }) by rw [HK.out]; simp [hb,HP.out])
       clear HPut e1 hb HK
       go_wp2_with fail
       go_region_with (refine HPu.out.mono ?_; rintro e w8 ⟨v',rfl,ht8,hT8,hv8⟩)
       all_goals
        have HT8 := hid (show Turn (foot R p m v) w w8 from (turnR (HTq.out.drewN 1)).trans (hT8.mono fun _ _ k => .inr k))
        have HR8 := hid ((HRq.out.drewN 1).put ht8 hT8 hv8)
        have HV8 := hid (show v'.ownBlock = v.ownBlock ∨ ∀ b,v'.ownBlock = some b → w.heap.size ≤ b from hv8.imp id fun k b e => Nat.le_trans HTq.out.size (k b e))
        have hcv8 : (convert 22 9 (.slice (some ⟨g,0,none⟩) j c)).run Try.prog w8 = .ok (.string ⟨l.toArray⟩) w8 := by
         rw [← HL16.out]
         exact run_convert_bytes_back w8 22 9 5 ⟨g,0,none⟩ c l Try.underlying22 Try.underlying5 Try.underlying9 (fun k hk => by
          rw [Addr.add_lit,Nat.zero_add]
          exact (World.cell?_of_block (w := w7.drew) (hT8.block g hgq (fun k => hgf.out (.inr k)))).trans (HCq.out k hk))
        clear ht8 hT8 hv8 hcv r3
        go_wp2_with fail
        refine (must_yes _ _).mono ?_
        rintro e w9 ⟨rfl,rfl⟩
        go_wp2_with fail
        go_ret
        rw [HN.out,HK2.out]
        exact ⟨v',rfl,HR8.out,HT8.out,HV8.out⟩
theorem rname_any (R p m : Nat) (v bv : Value) (bs : List UInt8) (s : St) (w : World) (h : RdAt w R p m v bv bs s) (hn : s.names.length < 4096) :
  Calls Try.prog 44 #[.pointer (some ⟨R,0,none⟩)] w (P2 R p m v bv bs w .string (nameP bs s)) := by
 cases hw : wideN bs s with
 | error x => exact name_err R p m v bv bs s x w h hw
 | ok y =>
  obtain ⟨k,s1⟩ := y
  have hnm := (wide_names 10 0 0 s s1 k hw).1
  by_cases hk : k = s1.names.length
  ·subst hk
   exact name_new R p m v bv bs s s1 w h hw (by rw [hnm]; exact hn)
  ·exact name_low R p m v bv bs s s1 k w h hw hk
end Go.Proofs.Ytgadkiljnebicaa
