/- The chapter's example: alive. -/
import Derived.Test.YtlgpdpadaknnaaaC4
import Derived.Test.YtlgpdpadaknnaaaD3
namespace Go.Proofs.Ytlgpdpadaknnaaa
open Go.RowKit Go.Maps
set_option maxRecDepth 100000
attribute [local go_sem] run_store_complex run_store_func' run_store_nilFunc'

theorem src_block {P : Program} {w : World} {tx e' size N n c : Nat} {cs : Array Value} {t : TypeId} {fr : Nat × Nat} (hk : P.underlying tx = some (.slice e')) (h : w.heap[N]? = some (.cells cs t fr)) (hs : cs.size = n * size) (h1 : ∀ u ∈ cs.toList, u.oneCell' = true) : Src P size tx (.slice (some ⟨N, 0, none⟩) n c) n cs.toList w := by
  refine Src.ofSlice _ hk _ _ _ _ (by simp [hs]) (fun j u hj => ?_) h1
  simp only [Addr.add_lit, World.cell?, h, Nat.zero_add]
  simpa using hj
/-- two parts, one behind the other -/
abbrev twoC (a b : Lv) : Array Value := #[.int .i64 a.k, .int .i64 a.n, .complex .f64 0 0, .string a.s, .int .i64 0, .int .u32 0, .int .u64 0, nilV, nilV, .int .i64 b.k, .int .i64 b.n, .complex .f64 0 0, .string b.s, .int .i64 0, .int .u32 0, .int .u64 0, nilV, nilV]
theorem tuple2 (a b : Lv) (w : World) : Calls Try.prog 10 #[.slice (some ⟨w.heap.size, 0, none⟩) 2 2] (w.alloc (.cells (twoC a b) 31)) (ListPost (w.alloc (.cells (twoC a b) 31)) 6 [a, b]) := by
  refine tuple_any _ 2 2 [a, b] _ rfl (by omega) ?_
  exact src_block (cs := twoC a b) Try.underlying23 (heap_new2 w _ _) rfl (by simp [Value.oneCell'])
abbrev q1 : List (ByteArray × Int) := [(sX, 1), (sX, 1)]
abbrev q2 : List (ByteArray × Int) := [(sX, 1), (sX, 2)]
theorem fit1 : fitM q1 [] = some [(sX, 1)] := by
  rw [fitM_new (by simp), fitM_old (by simp), fitM]
  rfl
theorem fit2 : fitM q2 [] = none := by
  rw [fitM_new (by simp), fitM_bad (by simp) (by simp)]
theorem vq (n : Int) (h : inR n = true) : ∀ q ∈ [(sX, (1 : Int)), (sX, n)], VarName q.1 ∧ inR q.2 = true := fun q hq => by
  simp at hq
  rcases hq with rfl | rfl
  · exact ⟨var_X, by decide⟩
  · exact ⟨var_X, h⟩
theorem no_binds : Binds [] := ⟨by simp, by simp, by simp, by simp⟩
theorem match_one (pv tv : Value) (w : World) (hp : LRow w (fun b => b < w.heap.size) pv (varL q1)) (ht : LRow w (fun b => b < w.heap.size) tv (intL q1)) :
    Calls Try.prog 8 #[.agg (tC 6 pv), .agg (tC 6 tv), .slice none 0 0] w (fun e w' => ∃ (la : Option Addr) (lc : Nat), e = .returned (.tuple #[.slice la 1 lc, .bool true, .int .i64 0]) ∧ w'.ownsRow w.heap.size 36 10 (.slice la 1 lc) 1 (bcat knF) ∧ Below w.heap.size w w') := by
  refine (match_ok 6 (.inl rfl) q1 (by decide) (vq 1 (by decide)) [] no_binds (by simp) (by simp) _ pv tv _ w hp ht (Row.nil _ _ _ _) (fun b h => h)).mono ?_
  rintro e w' ⟨hb, ⟨B, hf, h64, rfl⟩ | ⟨B, v, hf, h64, rfl, ho⟩ | ⟨hf, rfl⟩⟩
  · rw [fit1] at hf
    cases hf
    simp at h64
  · rw [fit1] at hf
    cases hf
    obtain ⟨la, lc, rfl⟩ := row_slice ho
    exact ⟨la, lc, rfl, ho, hb⟩
  · rw [fit1] at hf
    cases hf
theorem match_two (pv tv : Value) (w : World) (hp : LRow w (fun b => b < w.heap.size) pv (varL q2)) (ht : LRow w (fun b => b < w.heap.size) tv (intL q2)) :
    Calls Try.prog 8 #[.agg (tC 6 pv), .agg (tC 6 tv), .slice none 0 0] w (RB w (.tuple #[nilV, .bool false, .int .i64 0])) := by
  refine (match_ok 6 (.inl rfl) q2 (by decide) (vq 2 (by decide)) [] no_binds (by simp) (by simp) _ pv tv _ w hp ht (Row.nil _ _ _ _) (fun b h => h)).mono ?_
  rintro e w' ⟨hb, ⟨B, hf, h64, rfl⟩ | ⟨B, v, hf, h64, rfl, ho⟩ | ⟨hf, rfl⟩⟩
  · rw [fit2] at hf
    cases hf
  · rw [fit2] at hf
    cases hf
  · exact ⟨rfl, hb⟩
set_option maxHeartbeats 4000000 in
theorem alive_any (w : World) : Calls Try.prog 4 #[] w (RB w (.bool true)) := by
  go_enter Try.func4, Try.ntmps4
  go_wp2_with fail
  refine (v_any sX _).mono ?_
  rintro e w1 ⟨rfl, hb1⟩
  have HB1 := Lib.hid hb1
  clear hb1
  go_wp2_with fail
  refine (v_any sX _).mono ?_
  rintro e w2 ⟨rfl, hb2⟩
  have HB2 := Lib.hid (HB1.out.trans (hb2.mono HB1.out.size))
  clear hb2 HB1
  go_wp2_with fail
  refine (tuple2 ⟨9, 0, sX⟩ ⟨9, 0, sX⟩ w2).mono ?_
  rintro e w3 ⟨pa, pc, rfl, hL3, hb3⟩
  have HB3 := Lib.hid ((HB2.out.alloc HB2.out.size _).trans (hb3.mono (by have := HB2.out.size; simp; omega)))
  have HL3 := Lib.hid hL3
  have hs3 : w.heap.size ≤ w2.heap.size := HB2.out.size
  clear hb3 hL3 HB2
  go_upto_region 2 with fail
  have hba := (Below.refl w3.heap.size w3).alloc (Nat.le_refl _) (.cells (tC 6 (.slice pa 2 pc)) 31)
  have HX4 := Lib.hid (heap_new w3 (.cells (tC 6 (.slice pa 2 pc)) 31))
  have HL4 : Hid (LRow (w3.alloc (.cells (tC 6 (.slice pa 2 pc)) 31)) (fun b => b < w3.heap.size) (.slice pa 2 pc) (varL q1)) := Lib.hid (Row.mono (HL3.out.keep (fun b _ hb => hba.block b hb)) (fun b h _ => h.2))
  have HB4 := Lib.hid (HB3.out.trans (hba.mono HB3.out.size))
  have htl : w3.heap.size < (w3.alloc (.cells (tC 6 (.slice pa 2 pc)) 31)).heap.size := by simp
  clear hba HL3 HB3
  generalize w3.alloc (.cells (tC 6 (.slice pa 2 pc)) 31) = w4 at *
  generalize w3.heap.size = b1 at *
  have HSt : Hid (∀ w', Below w4.heap.size w4 w' → w'.cell? ⟨b1, 0, none⟩ = some (.int .i64 6) ∧ w'.cell? ⟨b1, 1, none⟩ = some (.int .i64 0) ∧ w'.cell? ⟨b1, 2, none⟩ = some (.complex .f64 0 0) ∧ w'.cell? ⟨b1, 3, none⟩ = some (.string ⟨#[]⟩) ∧ w'.cell? ⟨b1, 4, none⟩ = some (.int .i64 0) ∧ w'.cell? ⟨b1, 5, none⟩ = some (.int .u32 0) ∧ w'.cell? ⟨b1, 6, none⟩ = some (.int .u64 0) ∧ w'.cell? ⟨b1, 7, none⟩ = some (nilV) ∧ w'.cell? ⟨b1, 8, none⟩ = some (.slice pa 2 pc)) := Lib.hid (fun w' hb => nine_tC ((hb.block b1 htl).trans HX4.out))
  have HLk : Hid (∀ w', Below w4.heap.size w4 w' → LRow w' (fun b => b < b1) (.slice pa 2 pc) (varL q1)) := Lib.hid (fun w' hb => HL4.out.keep (fun b _ hl => hb.block b hl))
  have HC : Hid (Below w4.heap.size w4 w4.drew) := Lib.hid ((Below.refl _ _).drew)
  obtain ⟨j0, j1, j2, j3, j4, j5, j6, j7, j8⟩ := nine_tC HX4.out
  go_region_held3 (fun w' => w'.cell? ⟨b1, 0, none⟩ = some (.int .i64 6) ∧ w'.cell? ⟨b1, 1, none⟩ = some (.int .i64 0) ∧ w'.cell? ⟨b1, 2, none⟩ = some (.complex .f64 0 0) ∧ w'.cell? ⟨b1, 3, none⟩ = some (.string ⟨#[]⟩) ∧ w'.cell? ⟨b1, 4, none⟩ = some (.int .i64 0) ∧ w'.cell? ⟨b1, 5, none⟩ = some (.int .u32 0) ∧ w'.cell? ⟨b1, 6, none⟩ = some (.int .u64 0) ∧ w'.cell? ⟨b1, 7, none⟩ = some (nilV) ∧ w'.cell? ⟨b1, 8, none⟩ = some (.slice pa 2 pc)) (first
      | (with_reducible exact hS)
      | (with_reducible exact hSa _)
      | go_keep)
    (first
      | (go_at_call 6; refine (int_any _ _).mono ?_; rintro e wa ⟨rfl, hba⟩; have hH := HC.out.trans (hba.mono HC.out.size); clear HC; have HC := Lib.hid hH; clear hH hba; have hS := HSt.out _ HC.out; have hSa := fun o => HSt.out _ (HC.out.alloc HC.out.size o))
      | (go_at_call 10; refine (tuple2 ⟨1, 1, ⟨#[]⟩⟩ ⟨1, 1, ⟨#[]⟩⟩ _).mono ?_; rintro e wb ⟨ta, tc, rfl, hLb, hbb⟩; have hH := (HC.out.alloc HC.out.size _).trans (hbb.mono (by have := HC.out.size; simp; omega)); clear HC; have HC := Lib.hid hH; clear hH hbb; have HLt := Lib.hid hLb; clear hLb; have hS := HSt.out _ HC.out)
      | (go_at_call 8; refine (match_one _ _ _ (Row.mono (HLk.out _ HC.out) (fun b h _ => by have h1 : b < b1 := h; have := HC.out.size; omega)) (Row.mono HLt.out (fun b h _ => h.2))).mono ?_; rintro e wm ⟨la, lc, rfl, hom, hbm⟩; have HOm := Lib.hid hom; clear hom; have hH := HC.out.trans (hbm.mono HC.out.size); clear HC; have HC := Lib.hid hH; clear hH hbm; have hS := HSt.out _ HC.out))
  have HBm := Lib.hid (HB4.out.trans (HC.out.mono HB4.out.size))
  have HSm : Hid (∀ w', Below wm.heap.size wm w' → w'.cell? ⟨b1, 0, none⟩ = some (.int .i64 6) ∧ w'.cell? ⟨b1, 1, none⟩ = some (.int .i64 0) ∧ w'.cell? ⟨b1, 2, none⟩ = some (.complex .f64 0 0) ∧ w'.cell? ⟨b1, 3, none⟩ = some (.string ⟨#[]⟩) ∧ w'.cell? ⟨b1, 4, none⟩ = some (.int .i64 0) ∧ w'.cell? ⟨b1, 5, none⟩ = some (.int .u32 0) ∧ w'.cell? ⟨b1, 6, none⟩ = some (.int .u64 0) ∧ w'.cell? ⟨b1, 7, none⟩ = some (nilV) ∧ w'.cell? ⟨b1, 8, none⟩ = some (.slice pa 2 pc)) := Lib.hid (fun w' hb => HSt.out w' (HC.out.trans (hb.mono HC.out.size)))
  have HLm : Hid (∀ w', Below wm.heap.size wm w' → LRow w' (fun b => b < b1) (.slice pa 2 pc) (varL q2)) := Lib.hid (fun w' hb => HLk.out w' (HC.out.trans (hb.mono HC.out.size)))
  have hb1m : b1 < wm.heap.size := by have := HC.out.size; omega
  obtain ⟨k0, k1, k2, k3, k4, k5, k6, k7, k8⟩ := hS
  rename_i hHeld
  clear hHeld HC HSt HLk HX4 HL4 HLt hSa j0 j1 j2 j3 j4 j5 j6 j7 j8 hs3 htl HB4
  go_upto_region 3 with fail
  have HC : Hid (Below wm.heap.size wm wm.drew) := Lib.hid ((Below.refl _ _).drew)
  have HSt := HSm
  have HLk := HLm
  go_region_held3 (fun w' => w'.cell? ⟨b1, 0, none⟩ = some (.int .i64 6) ∧ w'.cell? ⟨b1, 1, none⟩ = some (.int .i64 0) ∧ w'.cell? ⟨b1, 2, none⟩ = some (.complex .f64 0 0) ∧ w'.cell? ⟨b1, 3, none⟩ = some (.string ⟨#[]⟩) ∧ w'.cell? ⟨b1, 4, none⟩ = some (.int .i64 0) ∧ w'.cell? ⟨b1, 5, none⟩ = some (.int .u32 0) ∧ w'.cell? ⟨b1, 6, none⟩ = some (.int .u64 0) ∧ w'.cell? ⟨b1, 7, none⟩ = some (nilV) ∧ w'.cell? ⟨b1, 8, none⟩ = some (.slice pa 2 pc)) (first
      | (with_reducible exact hS)
      | (with_reducible exact hSa _)
      | go_keep)
    (first
      | (go_at_call 6; refine (int_any _ _).mono ?_; rintro e wa ⟨rfl, hba⟩; have hH := HC.out.trans (hba.mono HC.out.size); clear HC; have HC := Lib.hid hH; clear hH hba; have hS := HSt.out _ HC.out; have hSa := fun o => HSt.out _ (HC.out.alloc HC.out.size o))
      | (go_at_call 10; refine (tuple2 ⟨1, 1, ⟨#[]⟩⟩ ⟨1, 2, ⟨#[]⟩⟩ _).mono ?_; rintro e wb ⟨ta, tc, rfl, hLb, hbb⟩; have hH := (HC.out.alloc HC.out.size _).trans (hbb.mono (by have := HC.out.size; simp; omega)); clear HC; have HC := Lib.hid hH; clear hH hbb; have HLt := Lib.hid hLb; clear hLb; have hS := HSt.out _ HC.out)
      | (go_at_call 8; refine (match_two _ _ _ (Row.mono (HLk.out _ HC.out) (fun b h _ => by have h1 : b < b1 := h; have := HC.out.size; omega)) (Row.mono HLt.out (fun b h _ => h.2))).mono ?_; rintro e wn ⟨rfl, hbm⟩; have hH := HC.out.trans (hbm.mono HC.out.size); clear HC; have HC := Lib.hid hH; clear hH hbm; have hS := HSt.out _ HC.out))
  have HBn := Lib.hid (HBm.out.trans (HC.out.mono HBm.out.size))
  have HLn := Lib.hid (HLk.out _ HC.out)
  have HOn := Lib.hid (row_below HOm.out HC.out)
  have HXn : Hid (∀ w', Below wn.heap.size wn w' → w'.cell? ⟨b1, 0, none⟩ = some (.int .i64 6) ∧ w'.cell? ⟨b1, 1, none⟩ = some (.int .i64 0) ∧ w'.cell? ⟨b1, 2, none⟩ = some (.complex .f64 0 0) ∧ w'.cell? ⟨b1, 3, none⟩ = some (.string ⟨#[]⟩) ∧ w'.cell? ⟨b1, 4, none⟩ = some (.int .i64 0) ∧ w'.cell? ⟨b1, 5, none⟩ = some (.int .u32 0) ∧ w'.cell? ⟨b1, 6, none⟩ = some (.int .u64 0) ∧ w'.cell? ⟨b1, 7, none⟩ = some (nilV) ∧ w'.cell? ⟨b1, 8, none⟩ = some (.slice pa 2 pc)) := Lib.hid (fun w' hb => HSt.out w' (HC.out.trans (hb.mono HC.out.size)))
  have hb1n : b1 < wn.heap.size := by have := HC.out.size; omega
  rename_i hHeld2
  clear hHeld2 HC HSt HLk HLt hSa hS HSm HLm HBm HOm hb1m k0 k1 k2 k3 k4 k5 k6 k7 k8
  go_wp2_with fail
  refine (v_any sX _).mono ?_
  rintro e x1 ⟨rfl, hx1⟩
  have HY1 := Lib.hid hx1
  clear hx1
  go_wp2_with fail
  refine (atom_any sA _).mono ?_
  rintro e x2 ⟨rfl, hx2⟩
  have HY2 := Lib.hid (HY1.out.trans (hx2.mono HY1.out.size))
  clear hx2 HY1
  go_wp2_with fail
  refine (tuple2 ⟨9, 0, sX⟩ ⟨3, 0, sA⟩ x2).mono ?_
  rintro e x3 ⟨fa, fc, rfl, hL3, hx3⟩
  have HY3 := Lib.hid ((HY2.out.alloc HY2.out.size _).trans (hx3.mono (by have := HY2.out.size; simp; omega)))
  have HL3 := Lib.hid hL3
  clear hx3 hL3 HY2
  go_wp2_with fail
  refine (fill_any _ _ x3 (Row.mono HL3.out (fun b h _ => h.2)) ⟨row_base (row_below HOn.out HY3.out) (Nat.zero_le _), fun b e => ((row_below HOn.out HY3.out).lt b e).2, fun h => by omega⟩).mono ?_
  rintro e x4 ⟨ga, gc, rfl, hL4, hx4⟩
  have HY4 := Lib.hid (HY3.out.trans (hx4.mono HY3.out.size))
  have HL4 := Lib.hid hL4
  have HO4 := Lib.hid (row_below HOn.out HY4.out)
  clear hx4 hL4 HY3 HL3
  go_upto_region 5 with fail
  have hba := (Below.refl x4.heap.size x4).alloc (Nat.le_refl _) (.cells (tC 6 (.slice ga 2 gc)) 31)
  have HY5 := Lib.hid (HY4.out.trans (hba.mono HY4.out.size))
  have HX5 := Lib.hid (heap_new x4 (.cells (tC 6 (.slice ga 2 gc)) 31))
  have HO5 := Lib.hid (row_below HO4.out hba)
  have HL5 : Hid (LRow (x4.alloc (.cells (tC 6 (.slice ga 2 gc)) 31)) (fun b => b < x4.heap.size) (.slice ga 2 gc) rsF) := Lib.hid (Row.mono (HL4.out.keep (fun b _ hb => hba.block b hb)) (fun b h _ => h.2))
  have HN5 : Hid (∀ w', Below x4.heap.size x4 w' → LRow w' (fun b => b < b1) (.slice pa 2 pc) (varL q1)) := Lib.hid (fun w' hb => HLn.out.keep (fun b _ hl => ((HY4.out.trans (hb.mono HY4.out.size)).block b hl)))
  have HX1 : Hid (∀ w', Below x4.heap.size x4 w' → w'.cell? ⟨b1, 0, none⟩ = some (.int .i64 6) ∧ w'.cell? ⟨b1, 1, none⟩ = some (.int .i64 0) ∧ w'.cell? ⟨b1, 2, none⟩ = some (.complex .f64 0 0) ∧ w'.cell? ⟨b1, 3, none⟩ = some (.string ⟨#[]⟩) ∧ w'.cell? ⟨b1, 4, none⟩ = some (.int .i64 0) ∧ w'.cell? ⟨b1, 5, none⟩ = some (.int .u32 0) ∧ w'.cell? ⟨b1, 6, none⟩ = some (.int .u64 0) ∧ w'.cell? ⟨b1, 7, none⟩ = some (nilV) ∧ w'.cell? ⟨b1, 8, none⟩ = some (.slice pa 2 pc)) := Lib.hid (fun w' hb => HXn.out w' (HY4.out.trans (hb.mono HY4.out.size)))
  have HBf := Lib.hid (HBn.out.trans (HY4.out.mono HBn.out.size))
  have hb1x : b1 < x4.heap.size := by have := HY4.out.size; omega
  have HBa := Lib.hid hba
  have hwx : w.heap.size ≤ x4.heap.size := by have := HY4.out.size; have := HBn.out.size; omega
  clear hba HY4 HL4 HO4 HY5 HLn HXn HBn HOn
  generalize hx5 : x4.alloc (.cells (tC 6 (.slice ga 2 gc)) 31) = x5 at *
  clear hx5
  have d8 : x5.cell? ⟨x4.heap.size, 8, none⟩ = some (.slice ga 2 gc) := by simp [World.cell?, HX5.out]
  rcases HO5.out.2 with ⟨_, h0⟩ | ⟨gl, lcap, lcur, hvl, _⟩
  · exact absurd h0 (by omega)
  cases hvl
  have l0 : x5.cell? ⟨gl, 0, none⟩ = some (.string sX) := by
    have := HO5.out.cells (g := gl) rfl 0 (.string sX) rfl
    simpa [Addr.add_lit] using this
  obtain ⟨gg, gcap, hvg, _, h9⟩ := HL5.out.nine (i := 0) (by decide)
  cases hvg
  have g1 : x5.cell? ⟨gg, 1, none⟩ = some (.int .i64 1) := by
    have := h9.2.1
    simpa using this
  clear h9
  go_wp2_with fail
  refine (v_any ⟨#[95]⟩ _).mono ?_
  rintro e y1 ⟨rfl, hy1⟩
  have HZ1 := Lib.hid (HBa.out.trans (hy1.mono HBa.out.size))
  clear hy1 d8 l0 g1
  go_wp2_with fail
  refine (mcheck_under _).mono ?_
  rintro e y2 ⟨rfl, hy2⟩
  have HZ2 := Lib.hid (HZ1.out.trans (hy2.mono HZ1.out.size))
  clear hy2 HZ1
  obtain ⟨k0, k1, k2, k3, k4, k5, k6, k7, k8⟩ := HX1.out _ HZ2.out
  go_wp2_with fail
  refine (vars_ok 6 _ (pat_var (.inl rfl) (by decide) (fun q hq => (vq 1 (by decide) q hq).1)) (fun b => b < b1) _ y2 ((HN5.out _ HZ2.out).rep 6) (fun b h => by have h1 : b < b1 := h; have := HZ2.out.size; omega)).mono ?_
  rintro e y3 ⟨v, rfl, hv, hy3⟩
  have hnm : namesP ((varL q1).map lvT) = [sX] := names_fit q1 [] _ fit1
  rw [hnm] at hv
  obtain ⟨va, vc, rfl⟩ := row_slice hv
  have HZ3 := Lib.hid (HZ2.out.trans (hy3.mono HZ2.out.size))
  clear hy3 hv hnm HZ2 k0 k1 k2 k3 k4 k5 k6 k7 k8
  go_wp2_with fail
  go_ret
  exact ⟨rfl, HBf.out.trans (HZ3.out.mono hwx)⟩
end Go.Proofs.Ytlgpdpadaknnaaa
