/- Several texts in one. -/
import Derived.Test.YtkfblapfphnggaaD11
import Derived.Test.YtkfblapfphnggaaD07
import Derived.Test.YtkfblapfphnggaaD12
import Derived.Test.YtkfblapfphnggaaD13
import Derived.Test.YtkfblapfphnggaaD14
/- The writer's floats. -/
namespace Go.Proofs.Ytkfblapfphnggaa
open Go.RowKit
set_option maxRecDepth 100000

theorem tobits (n : Nat) (w : World) : (callFunc 65 #[.float .f64 n]).run Try.prog w = .ok (.value (.int .u64 (n : Int))) w := by
  rw [run_callFunc_extern Try.func65 (by kernel_rfl) (by kernel_rfl) (by kernel_rfl) (e := Extern.MathFloatBits.float64bits) (by kernel_rfl)]
  rfl
set_option maxHeartbeats 4000000 in
theorem wbits_any (B Wb p m : Nat) (v : Value) (a : Option Addr) (c : Nat) (out : List UInt8) (names : List ByteArray) (x : Nat) (_ : x < 18446744073709551616) (w : World) (h : WrAt B Wb p m v a c out names w) (hlen : out.length + 10 ≤ 1000000000) :
    Calls Try.prog 39 #[.pointer (some ⟨Wb, 0, none⟩), .float .f64 x] w (WrPost B Wb p m v a c out w (out ++ bitsB x) names) := by
  have H := Lib.hid h
  have HLn := Lib.hid hlen
  have hf := tobits x
  obtain ⟨i0, hi, hz0, hz1, hz2⟩ := info_parts infoU8
  have X1 := Lib.hid hi
  have X2 := Lib.hid hz0
  have X3 := Lib.hid hz1
  have X4 := Lib.hid hz2
  clear h hi hz0 hz1 hz2 hlen
  go_enter Try.func39, Try.ntmps39
  go_wp2_with fail
  clear hf
  go_loopw [5] (fun t5 wr => ∃ (j : Nat) (v' : Value) (a' : Option Addr) (c' : Nat), j ≤ 8 ∧ t5 = .int .i64 (56 - 8 * (j : Int)) ∧ WrStep B Wb p m v a c out w v' a' c' (out ++ (bitsB x).take j) names wr) (fun t5 _ => (intOf t5 + 8).toNat)
  case atStart => exact ⟨0, v, a, c, Nat.zero_le _, rfl, by simpa using H.out.stay (Below.refl _ _)⟩
  case round =>
    obtain ⟨j, v2, a2, c2, hj, rfl, hS⟩ := hrel
    have HS := Lib.hid hS
    clear hS
    have wc0 := HS.out.wr.c0
    have wf0 := HS.out.wr.fz 0
    have hwl := HS.out.wr.wl
    by_cases hlt : j < 8
    · rcases (show j = 0 ∨ j = 1 ∨ j = 2 ∨ j = 3 ∨ j = 4 ∨ j = 5 ∨ j = 6 ∨ j = 7 by omega) with rfl | rfl | rfl | rfl | rfl | rfl | rfl | rfl
      · have hv : IntKind.u8.wrap ((x : Int) / 72057594037927936) = (((x / 2 ^ 56) % 256 : Nat) : Int) := by rw [IntKind.wrap_u8]; omega
        have hy : (x / 2 ^ 56) % 256 < 256 := Nat.mod_lt _ (by decide)
        have HCb := Lib.hid (show [UInt8.ofNat (x / 2 ^ 56)].map cellB = [.int .u8 (((x / 2 ^ 56) % 256 : Nat) : Int)] by show [Value.int .u8 _] = _; rw [ofNat_toNat])
        generalize (x / 2 ^ 56) % 256 = y at *
        have hol : (out ++ (bitsB x).take 0).length = out.length + 0 := by rw [List.length_append]; rfl
        have HM1 := Lib.hid (show (out ++ (bitsB x).take 0).length + 1 ≤ maxLen by rw [hol]; have := HLn.out; unfold maxLen; omega)
        have HM2 := Lib.hid (show ((out ++ (bitsB x).take 0).length + 1) * 1 ≤ 140737488355328 by rw [hol]; have := HLn.out; omega)
        have HTk := Lib.hid (show (out ++ (bitsB x).take 0) ++ [UInt8.ofNat (x / 2 ^ 56)] = out ++ (bitsB x).take 1 by rw [List.append_assoc]; rfl)
        clear hol
        generalize out ++ (bitsB x).take 0 = o2 at *
        have HM3 : Hid (B ≤ (wr.drew.alloc (.cells #[.int .u8 (y : Int)] 5)).heap.size) := Lib.hid (by have := HS.out.wr.bl; simp; omega)
        go_wp2_with fail
        go_region_law (first
          | (refine step_app (by rfl) (.tmp 16) (.tmp 21) 22 22 (by rfl) B 5 i0 (.int .u8 0) 1 1 Try.underlying22 X1.out X2.out X3.out X4.out rfl (by decide) (.slice a2 o2.length c2) o2.length (o2.map cellB) (by rfl) (HS.out.wr.row.drew.alloc _) (.slice (some ⟨wr.heap.size, 0, none⟩) 1 1) 1 [.int .u8 (y : Int)] (by rfl) (src_one wr.drew Try.underlying22 _ _ rfl) HM1.out HM2.out HM3.out ?_; intro a4 c4 wz ho4 hg4 hl4; have HA := Lib.hid (HS.out.wr.app (W0 := wr.drew.alloc (.cells #[.int .u8 (y : Int)] 5)) ((Below.refl _ wr).drew.alloc (Nat.le_refl _) _) (news := [UInt8.ofNat (x / 2 ^ 56)]) (k := 1) rfl hg4 (by rw [HCb.out]; exact ho4) hl4); have hK := HS.out.wr.kept (W0 := wr.drew.alloc (.cells #[.int .u8 (y : Int)] 5)) ((Below.refl _ wr).drew.alloc (Nat.le_refl _) _) hg4; obtain ⟨y4, z4⟩ := hK; clear ho4 hg4 hl4))
        all_goals
          clear y4 z4 wc0 wf0 hwl hv
          go_wp2_with fail
          go_round
          case rel => exact ⟨1, v2, a4, c4, by omega, by first | rfl | go_num | simp, by rw [← HTk.out]; exact HS.out.trans HA.out⟩
          case measure => simp [intOf]
      · have hv : IntKind.u8.wrap ((x : Int) / 281474976710656) = (((x / 2 ^ 48) % 256 : Nat) : Int) := by rw [IntKind.wrap_u8]; omega
        have hy : (x / 2 ^ 48) % 256 < 256 := Nat.mod_lt _ (by decide)
        have HCb := Lib.hid (show [UInt8.ofNat (x / 2 ^ 48)].map cellB = [.int .u8 (((x / 2 ^ 48) % 256 : Nat) : Int)] by show [Value.int .u8 _] = _; rw [ofNat_toNat])
        generalize (x / 2 ^ 48) % 256 = y at *
        have hol : (out ++ (bitsB x).take 1).length = out.length + 1 := by rw [List.length_append]; rfl
        have HM1 := Lib.hid (show (out ++ (bitsB x).take 1).length + 1 ≤ maxLen by rw [hol]; have := HLn.out; unfold maxLen; omega)
        have HM2 := Lib.hid (show ((out ++ (bitsB x).take 1).length + 1) * 1 ≤ 140737488355328 by rw [hol]; have := HLn.out; omega)
        have HTk := Lib.hid (show (out ++ (bitsB x).take 1) ++ [UInt8.ofNat (x / 2 ^ 48)] = out ++ (bitsB x).take 2 by rw [List.append_assoc]; rfl)
        clear hol
        generalize out ++ (bitsB x).take 1 = o2 at *
        have HM3 : Hid (B ≤ (wr.drew.alloc (.cells #[.int .u8 (y : Int)] 5)).heap.size) := Lib.hid (by have := HS.out.wr.bl; simp; omega)
        go_wp2_with fail
        go_region_law (first
          | (refine step_app (by rfl) (.tmp 16) (.tmp 21) 22 22 (by rfl) B 5 i0 (.int .u8 0) 1 1 Try.underlying22 X1.out X2.out X3.out X4.out rfl (by decide) (.slice a2 o2.length c2) o2.length (o2.map cellB) (by rfl) (HS.out.wr.row.drew.alloc _) (.slice (some ⟨wr.heap.size, 0, none⟩) 1 1) 1 [.int .u8 (y : Int)] (by rfl) (src_one wr.drew Try.underlying22 _ _ rfl) HM1.out HM2.out HM3.out ?_; intro a4 c4 wz ho4 hg4 hl4; have HA := Lib.hid (HS.out.wr.app (W0 := wr.drew.alloc (.cells #[.int .u8 (y : Int)] 5)) ((Below.refl _ wr).drew.alloc (Nat.le_refl _) _) (news := [UInt8.ofNat (x / 2 ^ 48)]) (k := 1) rfl hg4 (by rw [HCb.out]; exact ho4) hl4); have hK := HS.out.wr.kept (W0 := wr.drew.alloc (.cells #[.int .u8 (y : Int)] 5)) ((Below.refl _ wr).drew.alloc (Nat.le_refl _) _) hg4; obtain ⟨y4, z4⟩ := hK; clear ho4 hg4 hl4))
        all_goals
          clear y4 z4 wc0 wf0 hwl hv
          go_wp2_with fail
          go_round
          case rel => exact ⟨2, v2, a4, c4, by omega, by first | rfl | go_num | simp, by rw [← HTk.out]; exact HS.out.trans HA.out⟩
          case measure => simp [intOf]
      · have hv : IntKind.u8.wrap ((x : Int) / 1099511627776) = (((x / 2 ^ 40) % 256 : Nat) : Int) := by rw [IntKind.wrap_u8]; omega
        have hy : (x / 2 ^ 40) % 256 < 256 := Nat.mod_lt _ (by decide)
        have HCb := Lib.hid (show [UInt8.ofNat (x / 2 ^ 40)].map cellB = [.int .u8 (((x / 2 ^ 40) % 256 : Nat) : Int)] by show [Value.int .u8 _] = _; rw [ofNat_toNat])
        generalize (x / 2 ^ 40) % 256 = y at *
        have hol : (out ++ (bitsB x).take 2).length = out.length + 2 := by rw [List.length_append]; rfl
        have HM1 := Lib.hid (show (out ++ (bitsB x).take 2).length + 1 ≤ maxLen by rw [hol]; have := HLn.out; unfold maxLen; omega)
        have HM2 := Lib.hid (show ((out ++ (bitsB x).take 2).length + 1) * 1 ≤ 140737488355328 by rw [hol]; have := HLn.out; omega)
        have HTk := Lib.hid (show (out ++ (bitsB x).take 2) ++ [UInt8.ofNat (x / 2 ^ 40)] = out ++ (bitsB x).take 3 by rw [List.append_assoc]; rfl)
        clear hol
        generalize out ++ (bitsB x).take 2 = o2 at *
        have HM3 : Hid (B ≤ (wr.drew.alloc (.cells #[.int .u8 (y : Int)] 5)).heap.size) := Lib.hid (by have := HS.out.wr.bl; simp; omega)
        go_wp2_with fail
        go_region_law (first
          | (refine step_app (by rfl) (.tmp 16) (.tmp 21) 22 22 (by rfl) B 5 i0 (.int .u8 0) 1 1 Try.underlying22 X1.out X2.out X3.out X4.out rfl (by decide) (.slice a2 o2.length c2) o2.length (o2.map cellB) (by rfl) (HS.out.wr.row.drew.alloc _) (.slice (some ⟨wr.heap.size, 0, none⟩) 1 1) 1 [.int .u8 (y : Int)] (by rfl) (src_one wr.drew Try.underlying22 _ _ rfl) HM1.out HM2.out HM3.out ?_; intro a4 c4 wz ho4 hg4 hl4; have HA := Lib.hid (HS.out.wr.app (W0 := wr.drew.alloc (.cells #[.int .u8 (y : Int)] 5)) ((Below.refl _ wr).drew.alloc (Nat.le_refl _) _) (news := [UInt8.ofNat (x / 2 ^ 40)]) (k := 1) rfl hg4 (by rw [HCb.out]; exact ho4) hl4); have hK := HS.out.wr.kept (W0 := wr.drew.alloc (.cells #[.int .u8 (y : Int)] 5)) ((Below.refl _ wr).drew.alloc (Nat.le_refl _) _) hg4; obtain ⟨y4, z4⟩ := hK; clear ho4 hg4 hl4))
        all_goals
          clear y4 z4 wc0 wf0 hwl hv
          go_wp2_with fail
          go_round
          case rel => exact ⟨3, v2, a4, c4, by omega, by first | rfl | go_num | simp, by rw [← HTk.out]; exact HS.out.trans HA.out⟩
          case measure => simp [intOf]
      · have hv : IntKind.u8.wrap ((x : Int) / 4294967296) = (((x / 2 ^ 32) % 256 : Nat) : Int) := by rw [IntKind.wrap_u8]; omega
        have hy : (x / 2 ^ 32) % 256 < 256 := Nat.mod_lt _ (by decide)
        have HCb := Lib.hid (show [UInt8.ofNat (x / 2 ^ 32)].map cellB = [.int .u8 (((x / 2 ^ 32) % 256 : Nat) : Int)] by show [Value.int .u8 _] = _; rw [ofNat_toNat])
        generalize (x / 2 ^ 32) % 256 = y at *
        have hol : (out ++ (bitsB x).take 3).length = out.length + 3 := by rw [List.length_append]; rfl
        have HM1 := Lib.hid (show (out ++ (bitsB x).take 3).length + 1 ≤ maxLen by rw [hol]; have := HLn.out; unfold maxLen; omega)
        have HM2 := Lib.hid (show ((out ++ (bitsB x).take 3).length + 1) * 1 ≤ 140737488355328 by rw [hol]; have := HLn.out; omega)
        have HTk := Lib.hid (show (out ++ (bitsB x).take 3) ++ [UInt8.ofNat (x / 2 ^ 32)] = out ++ (bitsB x).take 4 by rw [List.append_assoc]; rfl)
        clear hol
        generalize out ++ (bitsB x).take 3 = o2 at *
        have HM3 : Hid (B ≤ (wr.drew.alloc (.cells #[.int .u8 (y : Int)] 5)).heap.size) := Lib.hid (by have := HS.out.wr.bl; simp; omega)
        go_wp2_with fail
        go_region_law (first
          | (refine step_app (by rfl) (.tmp 16) (.tmp 21) 22 22 (by rfl) B 5 i0 (.int .u8 0) 1 1 Try.underlying22 X1.out X2.out X3.out X4.out rfl (by decide) (.slice a2 o2.length c2) o2.length (o2.map cellB) (by rfl) (HS.out.wr.row.drew.alloc _) (.slice (some ⟨wr.heap.size, 0, none⟩) 1 1) 1 [.int .u8 (y : Int)] (by rfl) (src_one wr.drew Try.underlying22 _ _ rfl) HM1.out HM2.out HM3.out ?_; intro a4 c4 wz ho4 hg4 hl4; have HA := Lib.hid (HS.out.wr.app (W0 := wr.drew.alloc (.cells #[.int .u8 (y : Int)] 5)) ((Below.refl _ wr).drew.alloc (Nat.le_refl _) _) (news := [UInt8.ofNat (x / 2 ^ 32)]) (k := 1) rfl hg4 (by rw [HCb.out]; exact ho4) hl4); have hK := HS.out.wr.kept (W0 := wr.drew.alloc (.cells #[.int .u8 (y : Int)] 5)) ((Below.refl _ wr).drew.alloc (Nat.le_refl _) _) hg4; obtain ⟨y4, z4⟩ := hK; clear ho4 hg4 hl4))
        all_goals
          clear y4 z4 wc0 wf0 hwl hv
          go_wp2_with fail
          go_round
          case rel => exact ⟨4, v2, a4, c4, by omega, by first | rfl | go_num | simp, by rw [← HTk.out]; exact HS.out.trans HA.out⟩
          case measure => simp [intOf]
      · have hv : IntKind.u8.wrap ((x : Int) / 16777216) = (((x / 2 ^ 24) % 256 : Nat) : Int) := by rw [IntKind.wrap_u8]; omega
        have hy : (x / 2 ^ 24) % 256 < 256 := Nat.mod_lt _ (by decide)
        have HCb := Lib.hid (show [UInt8.ofNat (x / 2 ^ 24)].map cellB = [.int .u8 (((x / 2 ^ 24) % 256 : Nat) : Int)] by show [Value.int .u8 _] = _; rw [ofNat_toNat])
        generalize (x / 2 ^ 24) % 256 = y at *
        have hol : (out ++ (bitsB x).take 4).length = out.length + 4 := by rw [List.length_append]; rfl
        have HM1 := Lib.hid (show (out ++ (bitsB x).take 4).length + 1 ≤ maxLen by rw [hol]; have := HLn.out; unfold maxLen; omega)
        have HM2 := Lib.hid (show ((out ++ (bitsB x).take 4).length + 1) * 1 ≤ 140737488355328 by rw [hol]; have := HLn.out; omega)
        have HTk := Lib.hid (show (out ++ (bitsB x).take 4) ++ [UInt8.ofNat (x / 2 ^ 24)] = out ++ (bitsB x).take 5 by rw [List.append_assoc]; rfl)
        clear hol
        generalize out ++ (bitsB x).take 4 = o2 at *
        have HM3 : Hid (B ≤ (wr.drew.alloc (.cells #[.int .u8 (y : Int)] 5)).heap.size) := Lib.hid (by have := HS.out.wr.bl; simp; omega)
        go_wp2_with fail
        go_region_law (first
          | (refine step_app (by rfl) (.tmp 16) (.tmp 21) 22 22 (by rfl) B 5 i0 (.int .u8 0) 1 1 Try.underlying22 X1.out X2.out X3.out X4.out rfl (by decide) (.slice a2 o2.length c2) o2.length (o2.map cellB) (by rfl) (HS.out.wr.row.drew.alloc _) (.slice (some ⟨wr.heap.size, 0, none⟩) 1 1) 1 [.int .u8 (y : Int)] (by rfl) (src_one wr.drew Try.underlying22 _ _ rfl) HM1.out HM2.out HM3.out ?_; intro a4 c4 wz ho4 hg4 hl4; have HA := Lib.hid (HS.out.wr.app (W0 := wr.drew.alloc (.cells #[.int .u8 (y : Int)] 5)) ((Below.refl _ wr).drew.alloc (Nat.le_refl _) _) (news := [UInt8.ofNat (x / 2 ^ 24)]) (k := 1) rfl hg4 (by rw [HCb.out]; exact ho4) hl4); have hK := HS.out.wr.kept (W0 := wr.drew.alloc (.cells #[.int .u8 (y : Int)] 5)) ((Below.refl _ wr).drew.alloc (Nat.le_refl _) _) hg4; obtain ⟨y4, z4⟩ := hK; clear ho4 hg4 hl4))
        all_goals
          clear y4 z4 wc0 wf0 hwl hv
          go_wp2_with fail
          go_round
          case rel => exact ⟨5, v2, a4, c4, by omega, by first | rfl | go_num | simp, by rw [← HTk.out]; exact HS.out.trans HA.out⟩
          case measure => simp [intOf]
      · have hv : IntKind.u8.wrap ((x : Int) / 65536) = (((x / 2 ^ 16) % 256 : Nat) : Int) := by rw [IntKind.wrap_u8]; omega
        have hy : (x / 2 ^ 16) % 256 < 256 := Nat.mod_lt _ (by decide)
        have HCb := Lib.hid (show [UInt8.ofNat (x / 2 ^ 16)].map cellB = [.int .u8 (((x / 2 ^ 16) % 256 : Nat) : Int)] by show [Value.int .u8 _] = _; rw [ofNat_toNat])
        generalize (x / 2 ^ 16) % 256 = y at *
        have hol : (out ++ (bitsB x).take 5).length = out.length + 5 := by rw [List.length_append]; rfl
        have HM1 := Lib.hid (show (out ++ (bitsB x).take 5).length + 1 ≤ maxLen by rw [hol]; have := HLn.out; unfold maxLen; omega)
        have HM2 := Lib.hid (show ((out ++ (bitsB x).take 5).length + 1) * 1 ≤ 140737488355328 by rw [hol]; have := HLn.out; omega)
        have HTk := Lib.hid (show (out ++ (bitsB x).take 5) ++ [UInt8.ofNat (x / 2 ^ 16)] = out ++ (bitsB x).take 6 by rw [List.append_assoc]; rfl)
        clear hol
        generalize out ++ (bitsB x).take 5 = o2 at *
        have HM3 : Hid (B ≤ (wr.drew.alloc (.cells #[.int .u8 (y : Int)] 5)).heap.size) := Lib.hid (by have := HS.out.wr.bl; simp; omega)
        go_wp2_with fail
        go_region_law (first
          | (refine step_app (by rfl) (.tmp 16) (.tmp 21) 22 22 (by rfl) B 5 i0 (.int .u8 0) 1 1 Try.underlying22 X1.out X2.out X3.out X4.out rfl (by decide) (.slice a2 o2.length c2) o2.length (o2.map cellB) (by rfl) (HS.out.wr.row.drew.alloc _) (.slice (some ⟨wr.heap.size, 0, none⟩) 1 1) 1 [.int .u8 (y : Int)] (by rfl) (src_one wr.drew Try.underlying22 _ _ rfl) HM1.out HM2.out HM3.out ?_; intro a4 c4 wz ho4 hg4 hl4; have HA := Lib.hid (HS.out.wr.app (W0 := wr.drew.alloc (.cells #[.int .u8 (y : Int)] 5)) ((Below.refl _ wr).drew.alloc (Nat.le_refl _) _) (news := [UInt8.ofNat (x / 2 ^ 16)]) (k := 1) rfl hg4 (by rw [HCb.out]; exact ho4) hl4); have hK := HS.out.wr.kept (W0 := wr.drew.alloc (.cells #[.int .u8 (y : Int)] 5)) ((Below.refl _ wr).drew.alloc (Nat.le_refl _) _) hg4; obtain ⟨y4, z4⟩ := hK; clear ho4 hg4 hl4))
        all_goals
          clear y4 z4 wc0 wf0 hwl hv
          go_wp2_with fail
          go_round
          case rel => exact ⟨6, v2, a4, c4, by omega, by first | rfl | go_num | simp, by rw [← HTk.out]; exact HS.out.trans HA.out⟩
          case measure => simp [intOf]
      · have hv : IntKind.u8.wrap ((x : Int) / 256) = (((x / 2 ^ 8) % 256 : Nat) : Int) := by rw [IntKind.wrap_u8]; omega
        have hy : (x / 2 ^ 8) % 256 < 256 := Nat.mod_lt _ (by decide)
        have HCb := Lib.hid (show [UInt8.ofNat (x / 2 ^ 8)].map cellB = [.int .u8 (((x / 2 ^ 8) % 256 : Nat) : Int)] by show [Value.int .u8 _] = _; rw [ofNat_toNat])
        generalize (x / 2 ^ 8) % 256 = y at *
        have hol : (out ++ (bitsB x).take 6).length = out.length + 6 := by rw [List.length_append]; rfl
        have HM1 := Lib.hid (show (out ++ (bitsB x).take 6).length + 1 ≤ maxLen by rw [hol]; have := HLn.out; unfold maxLen; omega)
        have HM2 := Lib.hid (show ((out ++ (bitsB x).take 6).length + 1) * 1 ≤ 140737488355328 by rw [hol]; have := HLn.out; omega)
        have HTk := Lib.hid (show (out ++ (bitsB x).take 6) ++ [UInt8.ofNat (x / 2 ^ 8)] = out ++ (bitsB x).take 7 by rw [List.append_assoc]; rfl)
        clear hol
        generalize out ++ (bitsB x).take 6 = o2 at *
        have HM3 : Hid (B ≤ (wr.drew.alloc (.cells #[.int .u8 (y : Int)] 5)).heap.size) := Lib.hid (by have := HS.out.wr.bl; simp; omega)
        go_wp2_with fail
        go_region_law (first
          | (refine step_app (by rfl) (.tmp 16) (.tmp 21) 22 22 (by rfl) B 5 i0 (.int .u8 0) 1 1 Try.underlying22 X1.out X2.out X3.out X4.out rfl (by decide) (.slice a2 o2.length c2) o2.length (o2.map cellB) (by rfl) (HS.out.wr.row.drew.alloc _) (.slice (some ⟨wr.heap.size, 0, none⟩) 1 1) 1 [.int .u8 (y : Int)] (by rfl) (src_one wr.drew Try.underlying22 _ _ rfl) HM1.out HM2.out HM3.out ?_; intro a4 c4 wz ho4 hg4 hl4; have HA := Lib.hid (HS.out.wr.app (W0 := wr.drew.alloc (.cells #[.int .u8 (y : Int)] 5)) ((Below.refl _ wr).drew.alloc (Nat.le_refl _) _) (news := [UInt8.ofNat (x / 2 ^ 8)]) (k := 1) rfl hg4 (by rw [HCb.out]; exact ho4) hl4); have hK := HS.out.wr.kept (W0 := wr.drew.alloc (.cells #[.int .u8 (y : Int)] 5)) ((Below.refl _ wr).drew.alloc (Nat.le_refl _) _) hg4; obtain ⟨y4, z4⟩ := hK; clear ho4 hg4 hl4))
        all_goals
          clear y4 z4 wc0 wf0 hwl hv
          go_wp2_with fail
          go_round
          case rel => exact ⟨7, v2, a4, c4, by omega, by first | rfl | go_num | simp, by rw [← HTk.out]; exact HS.out.trans HA.out⟩
          case measure => simp [intOf]
      · have hv : IntKind.u8.wrap ((x : Int)) = (((x) % 256 : Nat) : Int) := by rw [IntKind.wrap_u8]; omega
        have hy : (x) % 256 < 256 := Nat.mod_lt _ (by decide)
        have HCb := Lib.hid (show [UInt8.ofNat (x)].map cellB = [.int .u8 (((x) % 256 : Nat) : Int)] by show [Value.int .u8 _] = _; rw [ofNat_toNat])
        generalize (x) % 256 = y at *
        have hol : (out ++ (bitsB x).take 7).length = out.length + 7 := by rw [List.length_append]; rfl
        have HM1 := Lib.hid (show (out ++ (bitsB x).take 7).length + 1 ≤ maxLen by rw [hol]; have := HLn.out; unfold maxLen; omega)
        have HM2 := Lib.hid (show ((out ++ (bitsB x).take 7).length + 1) * 1 ≤ 140737488355328 by rw [hol]; have := HLn.out; omega)
        have HTk := Lib.hid (show (out ++ (bitsB x).take 7) ++ [UInt8.ofNat (x)] = out ++ (bitsB x).take 8 by rw [List.append_assoc]; rfl)
        clear hol
        generalize out ++ (bitsB x).take 7 = o2 at *
        have HM3 : Hid (B ≤ (wr.drew.alloc (.cells #[.int .u8 (y : Int)] 5)).heap.size) := Lib.hid (by have := HS.out.wr.bl; simp; omega)
        go_wp2_with fail
        go_region_law (first
          | (refine step_app (by rfl) (.tmp 16) (.tmp 21) 22 22 (by rfl) B 5 i0 (.int .u8 0) 1 1 Try.underlying22 X1.out X2.out X3.out X4.out rfl (by decide) (.slice a2 o2.length c2) o2.length (o2.map cellB) (by rfl) (HS.out.wr.row.drew.alloc _) (.slice (some ⟨wr.heap.size, 0, none⟩) 1 1) 1 [.int .u8 (y : Int)] (by rfl) (src_one wr.drew Try.underlying22 _ _ rfl) HM1.out HM2.out HM3.out ?_; intro a4 c4 wz ho4 hg4 hl4; have HA := Lib.hid (HS.out.wr.app (W0 := wr.drew.alloc (.cells #[.int .u8 (y : Int)] 5)) ((Below.refl _ wr).drew.alloc (Nat.le_refl _) _) (news := [UInt8.ofNat (x)]) (k := 1) rfl hg4 (by rw [HCb.out]; exact ho4) hl4); have hK := HS.out.wr.kept (W0 := wr.drew.alloc (.cells #[.int .u8 (y : Int)] 5)) ((Below.refl _ wr).drew.alloc (Nat.le_refl _) _) hg4; obtain ⟨y4, z4⟩ := hK; clear ho4 hg4 hl4))
        all_goals
          clear y4 z4 wc0 wf0 hwl hv
          go_wp2_with fail
          go_round
          case rel => exact ⟨8, v2, a4, c4, by omega, by first | rfl | go_num | simp, by rw [← HTk.out]; exact HS.out.trans HA.out⟩
          case measure => simp [intOf]
    · obtain rfl : j = 8 := by omega
      go_wp2_with fail
      go_end0
      exact ⟨rfl, v2, a2, c2, HS.out⟩
end Go.Proofs.Ytkfblapfphnggaa
/- The writer's part: a complex number. -/
namespace Go.Proofs.Ytkfblapfphnggaa
open Go.RowKit
set_option maxRecDepth 100000
attribute [local go_sem] run_store_complex

set_option maxHeartbeats 4000000 in
theorem wp2 (B Wb p m : Nat) (v : Value) (a : Option Addr) (c : Nat) (out : List UInt8) (names : List ByteArray) (fx fy : Nat) (hx : fx < 18446744073709551616) (hy : fy < 18446744073709551616) (w : World) (h : WrAt B Wb p m v a c out names w) (hlen : out.length + 100 ≤ 1000000000) :
    Calls Try.prog 23 #[.pointer (some ⟨Wb, 0, none⟩), .agg #[.int .i64 2, .int .i64 0, .complex .f64 fx fy, .string ⟨#[]⟩, .int .i64 0, .int .u32 0, .int .u64 0, nilV, nilV]] w (WrPost B Wb p m v a c out w (out ++ (UInt8.ofNat 2 :: (bitsB fx ++ bitsB fy))) names) := by
  have HL1 := Lib.hid hlen
  obtain ⟨i0, hi, hz0, hz1, hz2⟩ := info_parts infoU8
  have X1 := Lib.hid hi
  have X2 := Lib.hid hz0
  have X3 := Lib.hid hz1
  have X4 := Lib.hid hz2
  have HX0 := Lib.hid (heap_new w (.cells #[.int .i64 2, .int .i64 0, .complex .f64 fx fy, .string ⟨#[]⟩, .int .i64 0, .int .u32 0, .int .u64 0, nilV, nilV] 31))
  have HSa := Lib.hid (h.stay ((Below.refl _ w).alloc (Nat.le_refl _) (.cells #[.int .i64 2, .int .i64 0, .complex .f64 fx fy, .string ⟨#[]⟩, .int .i64 0, .int .u32 0, .int .u64 0, nilV, nilV] 31)))
  have HNf := Lib.hid (show ¬ wfoot Wb p m v a out.length c w.heap.size from fun e => by have := (h.foot _ e).2; omega)
  have HBl := Lib.hid (show w.heap.size < (w.alloc (.cells #[.int .i64 2, .int .i64 0, .complex .f64 fx fy, .string ⟨#[]⟩, .int .i64 0, .int .u32 0, .int .u64 0, nilV, nilV] 31)).heap.size by simp)
  have HBw := Lib.hid h.bl
  clear h hi hz0 hz1 hz2 hlen
  go_enter Try.func23, Try.ntmps23
  go_wp2_with fail
  obtain ⟨b0, hb0⟩ : ∃ b, w.heap.size = b := ⟨_, rfl⟩
  rw [hb0] at HNf HBl HX0 ⊢
  have HB0 := Lib.hid hb0
  clear hb0
  generalize w.alloc (.cells #[.int .i64 2, .int .i64 0, .complex .f64 fx fy, .string ⟨#[]⟩, .int .i64 0, .int .u32 0, .int .u64 0, nilV, nilV] 31) = w1 at *
  have HS1 := Lib.hid (HSa.out.wr.stay (Below.refl _ w1))
  have HX1 := Lib.hid ((HS1.out.keep HBl.out HNf.out).trans HX0.out)
  obtain ⟨k0, k1, k2, k3, k4, k5, k6, k7, k8⟩ := NineAt.of_block HX1.out
  have wc0 := HS1.out.wr.c0
  have wc1 := HS1.out.wr.c1
  have wf0 := HS1.out.wr.fz 0
  have hwl := HS1.out.wr.wl
  have hbn : ¬ b0 = Wb := fun e => HNf.out (.inl e)
  have HM1 := Lib.hid (show out.length + 1 ≤ maxLen by have := HL1.out; unfold maxLen; omega)
  have HM2 := Lib.hid (show (out.length + 1) * 1 ≤ 140737488355328 by have := HL1.out; omega)
  have HM3 : Hid (B ≤ (w1.drew.alloc (.cells #[.int .u8 2] 5)).heap.size) := Lib.hid (by have := HS1.out.wr.bl; simp; omega)
  obtain ⟨o2, hO2⟩ : ∃ x, out ++ [UInt8.ofNat 2] = x := ⟨_, rfl⟩
  have HL2 := Lib.hid (show o2.length + 90 ≤ 1000000000 by rw [← hO2, List.length_append, show ([UInt8.ofNat 2] : List UInt8).length = 1 from (rfl)]; have := HL1.out; omega)
  have HO2 := Lib.hid hO2
  clear hO2
  go_cut [3] from 9 to 20 (fun t3 wx => t3 = .pointer (some ⟨b0, 0, none⟩) ∧ ∃ (v' : Value) (a' : Option Addr) (c' : Nat), WrStep B Wb p m v a c out w1 v' a' c' o2 names wx)
  case first =>
    go_region_law (first
      | (refine step_app (by rfl) (.tmp 13) (.tmp 17) 22 22 (by rfl) B 5 i0 (.int .u8 0) 1 1 Try.underlying22 X1.out X2.out X3.out X4.out rfl (by decide) (.slice a out.length c) out.length (out.map cellB) (by rfl) (HS1.out.wr.row.drew.alloc _) (.slice (some ⟨w1.heap.size, 0, none⟩) 1 1) 1 [.int .u8 2] (by rfl) (src_one w1.drew Try.underlying22 _ _ rfl) HM1.out HM2.out HM3.out ?_; intro a4 c4 wz ho4 hg4 hl4; have HA := Lib.hid (HS1.out.wr.app (W0 := (w1.drew.alloc (.cells #[.int .u8 2] 5))) ((Below.refl _ w1).drew.alloc (Nat.le_refl _) _) (news := [UInt8.ofNat 2]) (k := 1) (rfl) hg4 (by rw [cell1 (x := 2) (by decide) rfl]; exact ho4) hl4); have hK := HS1.out.wr.kept (W0 := (w1.drew.alloc (.cells #[.int .u8 2] 5))) ((Below.refl _ w1).drew.alloc (Nat.le_refl _) _) hg4; obtain ⟨y4, z4⟩ := hK; clear ho4 hg4 hl4))
    all_goals
      go_wp2_with fail
      go_meet
      exact ⟨rfl, _, _, _, by rw [← HO2.out]; exact HS1.out.trans HA.out⟩
  clear k0 k1 k2 k3 k4 k5 k6 k7 k8 wc0 wc1 wf0 hwl hbn
  obtain ⟨rfl, v2, a2, c2, hs⟩ := hcut
  have HS2 := Lib.hid hs
  clear hs HM1 HM2 HM3
  obtain ⟨w2, rfl⟩ : ∃ x, x = wc := ⟨_, rfl⟩
  have HX2 := Lib.hid ((HS2.out.keep HBl.out HNf.out).trans HX0.out)
  obtain ⟨k0, k1, k2, k3, k4, k5, k6, k7, k8⟩ := NineAt.of_block HX2.out
  have wc0 := HS2.out.wr.c0
  have wc1 := HS2.out.wr.c1
  have wf0 := HS2.out.wr.fz 0
  have hwl := HS2.out.wr.wl
  have hbn : ¬ b0 = Wb := fun e => HNf.out (.inl e)
  go_wp2_with fail
  clear k0 k1 k2 k3 k4 k5 k6 k7 k8 wc0 wc1 wf0 hwl hbn
  refine (wbits_any B Wb p m v2 a2 c2 o2 names fx (hx) w2 HS2.out.wr (by have := HL2.out; omega)).mono ?_
  rintro e w3 ⟨rfl, v3, a3, c3, hs⟩
  have HS3 := Lib.hid (HS2.out.trans hs)
  clear hs
  obtain ⟨o3, hO3⟩ : ∃ x, o2 ++ bitsB fx = x := ⟨_, rfl⟩
  have HL3 := Lib.hid (show o3.length + 60 ≤ 1000000000 by rw [← hO3, List.length_append]; have := HL2.out; have : (bitsB fx).length = 8 := rfl; omega)
  rw [hO3] at HS3
  have HO3 := Lib.hid hO3
  clear hO3
  have HX3 := Lib.hid ((HS3.out.keep HBl.out HNf.out).trans HX0.out)
  obtain ⟨k0, k1, k2, k3, k4, k5, k6, k7, k8⟩ := NineAt.of_block HX3.out
  have wc0 := HS3.out.wr.c0
  have wc1 := HS3.out.wr.c1
  have wf0 := HS3.out.wr.fz 0
  have hwl := HS3.out.wr.wl
  have hbn : ¬ b0 = Wb := fun e => HNf.out (.inl e)
  go_wp2_with fail
  clear k0 k1 k2 k3 k4 k5 k6 k7 k8 wc0 wc1 wf0 hwl hbn
  refine (wbits_any B Wb p m v3 a3 c3 o3 names fy (hy) w3 HS3.out.wr (by have := HL3.out; omega)).mono ?_
  rintro e w4 ⟨rfl, v4, a4, c4, hs⟩
  have HS4 := Lib.hid (HS3.out.trans hs)
  clear hs
  obtain ⟨o4, hO4⟩ : ∃ x, o3 ++ bitsB fy = x := ⟨_, rfl⟩
  have HL4 := Lib.hid (show o4.length + 40 ≤ 1000000000 by rw [← hO4, List.length_append]; have := HL3.out; have : (bitsB fy).length = 8 := rfl; omega)
  rw [hO4] at HS4
  have HO4 := Lib.hid hO4
  clear hO4
  go_wp2_with fail
  go_end0
  exact ⟨rfl, v4, a4, c4, by rw [show out ++ (UInt8.ofNat 2 :: (bitsB fx ++ bitsB fy)) = o4 by rw [← HO4.out, ← HO3.out, ← HO2.out]; simp]; exact HSa.out.trans HS4.out⟩
end Go.Proofs.Ytkfblapfphnggaa
/- The writer's part, at right terms; Encode at right terms. -/
namespace Go.Proofs.Ytkfblapfphnggaa
open Go.RowKit
set_option maxRecDepth 100000

theorem wpart_any (B Wb p m : Nat) : ∀ (r : Nat) (t : Tm), GoodT r t → ∀ (F : Nat → Prop), (∀ b, F b → b < B) → ∀ (v : Value) (a : Option Addr) (c : Nat) (out : List UInt8) (names : List ByteArray) (cs : Array Value) (w : World), WrAt B Wb p m v a c out names w → Rep w F t cs → names.length + sizeT t ≤ 4096 → out.length + 44 * sizeT t + 200 ≤ 1000000000 →
    Calls Try.prog 23 #[.pointer (some ⟨Wb, 0, none⟩), .agg cs] w (WrPost B Wb p m v a c out w (out ++ (encT t names).1) (encT t names).2) := by
  intro r
  induction r with
  | zero => intro t h; exact h.elim
  | succ r ih =>
    intro t hg F hF v a c out names cs w hw hrep hnm hlen
    obtain ⟨h, l⟩ := t
    obtain ⟨hok, hgl⟩ := hg
    obtain ⟨bv, lv, rfl, hbv, vs, hlv, hreps⟩ := hrep
    simp only [sizeT] at hnm hlen
    cases hok with
    | int n hn =>
      have e1 : bv = nilV := hbv.2.2 rfl
      have e2 : lv = nilV := hlv.2.2 rfl
      subst e1 e2
      have := wp1 B Wb p m v a c out names n hn w hw (by omega)
      simpa [encT, headB, encTs] using this
    | cx x y hx hy h =>
      have e1 : bv = nilV := hbv.2.2 rfl
      have e2 : lv = nilV := hlv.2.2 rfl
      subst e1 e2
      have := wp2 B Wb p m v a c out names x y hx hy w hw (by omega)
      simpa [encT, headB, encTs] using this
    | atom s hs =>
      have e1 : bv = nilV := hbv.2.2 rfl
      have e2 : lv = nilV := hlv.2.2 rfl
      subst e1 e2
      have h3 : encT (.mk { kind := 3, s := s } []) names = (UInt8.ofNat 3 :: (atomB names s).1, (atomB names s).2) := by simp [encT, headB, encTs]
      rw [h3]
      cases hp : pos names s with
      | some k => exact wp3_old B Wb p m v a c out names s k hp hs w hw (by omega) (by simp [sizeTs] at hnm; omega)
      | none => exact wp3_new B Wb p m v a c out names s hp hs w hw (by omega) (by simp [sizeTs] at hnm; omega)
    | id k node boot idn hk hn hb hi h =>
      have e1 : bv = nilV := hbv.2.2 rfl
      have e2 : lv = nilV := hlv.2.2 rfl
      subst e1 e2
      rcases hk with rfl | rfl
      · have := wp4 B Wb p m v a c out names node boot idn hn hb hi w hw (by omega)
        simpa [encT, headB, encTs] using this
      · have := wp5 B Wb p m v a c out names node boot idn hn hb hi w hw (by omega)
        simpa [encT, headB, encTs] using this
    | list k _ hk hl =>
      have e1 : bv = nilV := hbv.2.2 rfl
      subst e1
      obtain ⟨la, lc, rfl⟩ := row_slice hlv.1
      have hsub : ∀ t ∈ l, ∀ (v : Value) (a : Option Addr) (c : Nat) (out : List UInt8) (names : List ByteArray) (cs : Array Value) (w : World), WrAt B Wb p m v a c out names w → Rep w F t cs → names.length + sizeT t ≤ 4096 → out.length + 44 * sizeT t + 200 ≤ 1000000000 →
          Calls Try.prog 23 #[.pointer (some ⟨Wb, 0, none⟩), .agg cs] w (WrPost B Wb p m v a c out w (out ++ (encT t names).1) (encT t names).2) := fun t ht v a c out names cs w h1 h2 h3 h4 => ih t (hgl t ht) F hF v a c out names cs w h1 h2 h3 h4
      rcases hk with rfl | rfl
      · have := wp6 B Wb p m v a c out names F l vs la lc w hw (by omega) hF hlv hreps hl (by simp at hnm; omega) r hgl hsub
        simpa [encT, headB] using this
      · have := wp7 B Wb p m v a c out names F l vs la lc w hw (by omega) hF hlv hreps hl (by simp at hnm; omega) r hgl hsub
        simpa [encT, headB] using this
    | bytes b =>
      have e2 : lv = nilV := hlv.2.2 rfl
      subst e2
      obtain ⟨ba, bc, rfl⟩ := row_slice hbv.1
      change names.length + (1 + b.length + sizeTs []) ≤ 4096 at hnm
      change out.length + 44 * (1 + b.length + sizeTs []) + 200 ≤ 1000000000 at hlen
      have := wp8 B Wb p m v a c out names F b ba bc w hw (by omega) hF hbv (by omega)
      simpa [encT, headB, encTs] using this
end Go.Proofs.Ytkfblapfphnggaa
