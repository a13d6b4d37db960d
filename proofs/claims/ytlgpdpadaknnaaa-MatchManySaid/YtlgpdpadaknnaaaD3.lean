/- match.Fill at the chapter's example. -/
import Derived.Test.YtlgpdpadaknnaaaD2
namespace Go.Proofs.Ytlgpdpadaknnaaa
open Go.RowKit Go.Maps
set_option maxRecDepth 100000
attribute [local go_sem] run_store_complex run_store_func' run_store_nilFunc'

abbrev sX : ByteArray := ⟨#[88]⟩
abbrev sA : ByteArray := ⟨#[97]⟩
theorem okTo1 {c : UInt8} (h : okb c.toNat = true) : okTo ⟨#[c]⟩ 1 := fun j hj => by
  obtain rfl : j = 0 := by omega
  exact h
theorem var_X : VarName sX := ⟨by decide, by decide, by decide, by decide, okTo1 (by decide)⟩
theorem atom_A : nameB sA = true := by decide
abbrev psF : List Lv := [⟨9, 0, sX⟩, ⟨3, 0, sA⟩]
abbrev rsF : List Lv := [⟨1, 1, ⟨#[]⟩⟩, ⟨3, 0, sA⟩]
abbrev knF : List Bd := [⟨sX, 1, 1, ⟨#[]⟩⟩]
theorem pat_F : Pat 6 (psF.map lvT) := ⟨.inl rfl, fun t ht => by
  simp at ht
  rcases ht with rfl | rfl
  · exact LeafP.var sX var_X
  · exact LeafP.atom sA atom_A, by decide⟩
theorem binds_F : Binds knF := ⟨by simp, fun b hb => by simp at hb; subst hb; exact var_X, fun b hb => by simp at hb; subst hb; exact right_int 1 (by decide), by decide⟩
theorem row_tC {w : World} {F : Nat → Prop} {a : Option Addr} {n c : Nat} {l : List Lv} {k : Nat} (hk : k = 6 ∨ k = 7) (hl : l.length ≤ 256) (h : LRow w F (.slice a n c) l) (hg : ∀ x ∈ l, HdOk { kind := x.k, n := x.n, s := x.s } []) (hs : sizeTs (l.map lvT) = l.length) (hF : ∀ b, F b → b < w.heap.size) :
    Calls Try.prog 15 #[.agg (tC k (.slice a n c))] w (RB w (.int .i64 0)) := by
  refine check_good (.mk { kind := (k : Int) } (l.map lvT)) ⟨HdOk.list k _ hk (by simpa using hl), fun t ht => ?_⟩ ?_ F _ w (h.rep k) hF
  · obtain ⟨x, hx, rfl⟩ := List.mem_map.1 ht
    exact ⟨hg x hx, by simp⟩
  · simp only [sizeT, hs]
    simp
    omega
set_option maxHeartbeats 2000000 in
theorem fill_any (pv kv : Value) (w : World) (hp : LRow w (fun b => b < w.heap.size) pv psF) (hk : Row w (fun b => b < w.heap.size) 36 10 kv 1 (bcat knF)) :
    Calls Try.prog 11 #[.agg (tC 6 pv), kv] w (fun e w' => ∃ (a : Option Addr) (c : Nat), e = .returned (.tuple #[.agg (tC 6 (.slice a 2 c)), .int .i64 0]) ∧ LRow w' (fun b => since w b ∧ b < w'.heap.size) (.slice a 2 c) rsF ∧ Below w.heap.size w w') := by
  obtain ⟨pa, pc, rfl⟩ := row_slice hp.1
  obtain ⟨ka, kc, rfl⟩ := row_slice hk.1
  have hw0 := ((Below.refl w.heap.size w).alloc (Nat.le_refl _) (.cells (tC 6 (.slice pa psF.length pc)) 31)).alloc (by simp) (.cells zC 31)
  have HP := Lib.hid hp
  have HK := Lib.hid hk
  have HC := Lib.hid (mcheck_ok 6 _ pat_F (fun b => b < w.heap.size) _ _ ((hp.keep (fun b _ hb => hw0.block b hb)).rep 6) (fun b h => by simp; omega))
  have HZ : Hid (((w.alloc (.cells (tC 6 (.slice pa psF.length pc)) 31)).alloc (.cells zC 31)).heap[w.heap.size + 1]? = some (.cells zC 31 (0, 0))) := Lib.hid (by
    have := heap_new (w.alloc (.cells (tC 6 (.slice pa psF.length pc)) 31)) (.cells zC 31)
    simpa using this)
  have HX := Lib.hid (heap_new2 w (.cells (tC 6 (.slice pa psF.length pc)) 31) (.cells zC 31))
  have HB := Lib.hid hw0
  clear hp hk hw0
  go_enter Try.func11, Try.ntmps11
  go_wp2_with fail
  refine HC.out.mono ?_
  rintro e w1 ⟨rfl, hb1⟩
  have HZ1 := Lib.hid ((hb1.block _ (blk_lt HZ.out)).trans HZ.out)
  have HX1 := Lib.hid ((hb1.block _ (blk_lt HX.out)).trans HX.out)
  have HB1 := Lib.hid (HB.out.trans (hb1.mono HB.out.size))
  clear hb1 HZ HX HB HC
  go_wp2_with fail
  refine (table_ok knF binds_F (fun b => b < w.heap.size) _ w1 (HK.out.keep (fun b _ hb => HB1.out.block b hb)) (fun b h => by have := HB1.out.size; omega)).mono ?_
  rintro e w2 ⟨m, rfl, hm, hb2, hmm⟩
  have HZ2 := Lib.hid ((hb2.block _ (blk_lt HZ1.out)).trans HZ1.out)
  have HX2 := Lib.hid ((hb2.block _ (blk_lt HX1.out)).trans HX1.out)
  have HB2 := Lib.hid (HB1.out.trans (hb2.mono HB1.out.size))
  have HM2 := Lib.hid hm
  clear hb2 hm HZ1 HX1 HB1
  obtain ⟨j0, j1, j2, j3, j4, j5, j6, j7, j8⟩ := nine_tC HX2.out
  go_wp2_with fail
  refine (filled_list 6 (.inl rfl) psF rsF rfl (by decide) m 1 _ (fun b => b < w.heap.size) _ w2 (HP.out.keep (fun b _ hb => HB2.out.block b hb)) (fun b h => by have := HB2.out.size; omega) HM2.out (fun i h h' w hm => ?_)).mono ?_
  · rcases i with _ | _ | i
    · exact filled_var sX (by decide) 1 (by decide) m 1 _ w hm (by simp) (by simp)
    · exact filled_atom sA _ w
    · simp at h
      omega
  rintro e w3 ⟨a, c, rfl, hL3, hb3⟩
  have HZ3 := Lib.hid ((hb3.block _ (blk_lt HZ2.out)).trans HZ2.out)
  have HB3 := Lib.hid (HB2.out.trans (hb3.mono HB2.out.size))
  have HL3 := Lib.hid hL3
  have hs3 := hb3.size
  have hs2 : w.heap.size + 1 < w2.heap.size := blk_lt HZ2.out
  clear hb3 hL3 HZ2 HX2 HB2 HM2 j0 j1 j2 j3 j4 j5 j6 j7 j8
  go_upto_region 10 with fail
  have HBa := (Below.refl w3.heap.size w3).alloc (Nat.le_refl _) (.cells (tC 6 (.slice a 2 c)) 31)
  have HZ4 := Lib.hid ((HBa.block _ (blk_lt HZ3.out)).trans HZ3.out)
  have HX4 := Lib.hid (heap_new w3 (.cells (tC 6 (.slice a 2 c)) 31))
  have HL4 : Hid (LRow (w3.alloc (.cells (tC 6 (.slice a 2 c)) 31)) (fun b => since w2 b ∧ b < w3.heap.size) (.slice a 2 c) rsF) := Lib.hid (HL3.out.keep (fun b _ hb => HBa.block b hb))
  have HB4 := Lib.hid (HB3.out.trans (HBa.mono (by have := HB3.out.size; omega)))
  have hs4 : w3.heap.size < (w3.alloc (.cells (tC 6 (.slice a 2 c)) 31)).heap.size := by simp
  clear HBa HZ3 HL3 HB3
  generalize w3.alloc (.cells (tC 6 (.slice a 2 c)) 31) = w4 at *
  generalize w3.heap.size = t9 at *
  obtain ⟨j0, j1, j2, j3, j4, j5, j6, j7, j8⟩ := nine_tC HX4.out
  go_wp2_with fail
  refine (row_tC (k := 6) (.inl rfl) (by decide) HL4.out (fun x hx => ?_) rfl (fun b h => by omega)).mono ?_
  · simp at hx
    rcases hx with rfl | rfl
    · exact HdOk.int 1 (by decide)
    · exact HdOk.atom sA atom_A
  rintro e w5 ⟨rfl, hb5⟩
  have HZ5 := Lib.hid ((hb5.block _ (blk_lt HZ4.out)).trans HZ4.out)
  have HX5 := Lib.hid ((hb5.block _ (blk_lt HX4.out)).trans HX4.out)
  have HL5 := Lib.hid (HL4.out.keep (fun b _ hb => hb5.block b hb))
  have HB5 := Lib.hid (HB4.out.trans (hb5.mono HB4.out.size))
  have hs5 := hb5.size
  clear hb5 HZ4 HX4 HL4 HB4 j0 j1 j2 j3 j4 j5 j6 j7 j8
  obtain ⟨j0, j1, j2, j3, j4, j5, j6, j7, j8⟩ := nine_tC HX5.out
  go_wp2_with (refine wpList_store_row rfl 31 (.tmp 4) (.tmp 40) rfl (w.heap.size + 1) (tC 6 (.slice a 2 c)) rfl rfl 31 zC HZ5.out infoT9 rfl (by simp [Array.all, Value.oneCell']) ?_)
  have HZ6 := setRow_heap w5 (w.heap.size + 1) zC (tC 6 (.slice a 2 c)) 31 (0, 0) HZ5.out
  have HB6 := Lib.hid (HB5.out.trans (setRow_below (w := w5) (cs := tC 6 (.slice a 2 c)) (Nat.le_succ w.heap.size)))
  have hne : ∀ b, b ≠ w.heap.size + 1 → (w5.setRow (w.heap.size + 1) (tC 6 (.slice a 2 c))).heap[b]? = w5.heap[b]? := fun b h => setRow_other w5 _ b _ h
  refine bodyPost_ret (v := .tuple #[.agg (tC 6 (.slice a 2 c)), .int .i64 0]) (results_cell2 Try.results11 _ _ _ 31 _ (0, 0) _ _ rfl rfl HZ6 Try.underlying31 rfl infoT9) rfl ⟨a, c, rfl, ?_, HB6.out⟩
  have hsz6 : (w5.setRow (w.heap.size + 1) (tC 6 (.slice a 2 c))).heap.size = w5.heap.size := by simp [World.setRow]
  have h2 := HL5.out.keep (w' := w5.setRow (w.heap.size + 1) (tC 6 (.slice a 2 c))) (fun b h _ => hne b (by have h1 : w2.heap.size ≤ b := h.1; omega))
  exact Row.mono h2 (fun b h _ => ⟨by have h1 : w2.heap.size ≤ b := h.1; show w.heap.size ≤ b; omega, by rw [hsz6]; omega⟩)
end Go.Proofs.Ytlgpdpadaknnaaa
