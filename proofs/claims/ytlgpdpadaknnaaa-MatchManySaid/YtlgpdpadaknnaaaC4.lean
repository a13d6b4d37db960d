/- match.Match: variables, ints, what is known. -/
import Derived.Test.YtlgpdpadaknnaaaC2
import Derived.Test.YtlgpdpadaknnaaaD1
namespace Go.Proofs.Ytlgpdpadaknnaaa
open Go.RowKit Go.Maps
set_option maxRecDepth 100000
attribute [local go_sem] run_store_complex run_store_func' run_store_nilFunc'

/-- what Match answers -/
def MatchPost (W : World) (kn : List Bd) (qs : List (ByteArray × Int)) (e : Ending) (w' : World) : Prop :=
  Below W.heap.size W w' ∧ ((∃ B, fitM qs [] = some B ∧ 64 < kn.length + B.length ∧ e = .returned (.tuple #[nilV, .bool false, .int .i64 52])) ∨
    (∃ B v, fitM qs [] = some B ∧ kn.length + B.length ≤ 64 ∧ e = .returned (.tuple #[v, .bool true, .int .i64 0]) ∧ w'.ownsRow W.heap.size 36 10 v (kn.length + B.length) (bcat (kn ++ B.map bdI))) ∨
    (fitM qs [] = none ∧ e = .returned (.tuple #[nilV, .bool false, .int .i64 0])))
theorem two_terms (w : World) (a b : Array Value) {w1 : World} (hb1 : Below ((w.alloc (.cells a 31)).alloc (.cells b 31)).heap.size ((w.alloc (.cells a 31)).alloc (.cells b 31)) w1) :
    w1.heap[w.heap.size]? = some (.cells a 31 (0, 0)) ∧ w1.heap[w.heap.size + 1]? = some (.cells b 31 (0, 0)) ∧ Below w.heap.size w w1 ∧ w.heap.size + 1 < w1.heap.size := by
  refine ⟨(hb1.block _ (by simp; omega)).trans (heap_new2 w _ _), ?_, (((Below.refl w.heap.size w).alloc (Nat.le_refl _) _).alloc (by simp) _).trans (hb1.mono (by simp; omega)), by have := hb1.size; simp at this; omega⟩
  have h := heap_new (w.alloc (.cells a 31)) (.cells b 31)
  have e : (w.alloc (.cells a 31)).heap.size = w.heap.size + 1 := by simp
  rw [e] at h
  exact (hb1.block _ (by simp)).trans h
theorem set_snoc {W : World} {m n : Nat} {l : List ByteArray} {x : ByteArray} (h : W.ownsMap Try.prog 9 (plainElem (H := Unit) Try.prog 3) m n ((setM l).put (key x) (num 1))) : setAt W m n (l ++ [x]) := by
  unfold setAt
  rw [setM_snoc]
  exact h
theorem row_base {w : World} {base base' e size n : Nat} {v : Value} {xs : List Value} (h : w.ownsRow base e size v n xs) (hb : base' ≤ base) : w.ownsRow base' e size v n xs := by
  obtain ⟨h1, h2⟩ := h
  exact ⟨h1, h2.imp id fun ⟨g, cap, cur, hv, hg, r⟩ => ⟨g, cap, cur, hv, by omega, r⟩⟩
theorem keep_tt {wa wz : World} {tt : Nat} {v : Value} {o : Obj} {cs : Array Value} {t : TypeId} (hx : ∀ b, v.ownBlock = some b → b ≠ tt) (hg : (wa.alloc o).grownBy wz v.ownBlock) (h : wa.heap[tt]? = some (.cells cs t (0, 0))) : wz.heap[tt]? = some (.cells cs t (0, 0)) := by
  have hl : tt < wa.heap.size := (Array.getElem?_eq_some_iff.1 h).1
  exact ((hg.block tt (by simp; omega) (fun e => hx tt e.symm rfl)).trans (Below.heap_alloc wa o tt hl)).trans h
theorem ten_at {w : World} {tt : Nat} {bn bs : ByteArray} {bk bx : Int} {t : TypeId} (h : w.heap[tt]? = some (.cells (bdC ⟨bn, bk, bx, bs⟩) t (0, 0))) : w.cell? ⟨tt, 0, none⟩ = some (.string bn) ∧ w.cell? ⟨tt, 1, none⟩ = some (.int .i64 bk) ∧ w.cell? ⟨tt, 2, none⟩ = some (.int .i64 bx) ∧ w.cell? ⟨tt, 3, none⟩ = some (.complex .f64 0 0) ∧ w.cell? ⟨tt, 4, none⟩ = some (.string bs) ∧ w.cell? ⟨tt, 5, none⟩ = some (.int .i64 0) ∧ w.cell? ⟨tt, 6, none⟩ = some (.int .u32 0) ∧ w.cell? ⟨tt, 7, none⟩ = some (.int .u64 0) ∧ w.cell? ⟨tt, 8, none⟩ = some (nilV) ∧ w.cell? ⟨tt, 9, none⟩ = some (nilV) := by
  refine ⟨?_, ?_, ?_, ?_, ?_, ?_, ?_, ?_, ?_, ?_⟩ <;> simp [World.cell?, h]
set_option maxHeartbeats 4000000 in
theorem match_ok (k : Nat) (hk : k = 6 ∨ k = 7) (qs : List (ByteArray × Int)) (hlen : qs.length ≤ 256) (hv : ∀ q ∈ qs, VarName q.1 ∧ inR q.2 = true) (kn : List Bd) (hkn : Binds kn) (hk1 : kn.length ≤ 1) (hnew : ∀ q ∈ qs, q.1 ∉ kn.map Bd.nm)
    (F : Nat → Prop) (pv tv v : Value) (w : World) (hp : LRow w F pv (varL qs)) (ht : LRow w F tv (intL qs)) (hkv : Row w F 36 10 v kn.length (bcat kn)) (hF : ∀ b, F b → b < w.heap.size) :
    Calls Try.prog 8 #[.agg (tC k pv), .agg (tC k tv), v] w (MatchPost w kn qs) := by
  have hmm := @run_makeMap Try.prog
  obtain ⟨pa, pc, rfl⟩ := row_slice hp.1
  obtain ⟨ta, tc, rfl⟩ := row_slice ht.1
  obtain ⟨ka, kc, rfl⟩ := row_slice hkv.1
  simp only [List.length_map] at hp ht ⊢
  have hw0 := ((Below.refl w.heap.size w).alloc (Nat.le_refl _) (.cells (tC k (.slice pa qs.length pc)) 31)).alloc (by simp) (.cells (tC k (.slice ta qs.length tc)) 31)
  have HW := Lib.hid (walked_ok k _ (pat_var hk hlen (fun q hq => (hv q hq).1)) F _ _ ((hp.keep (fun b _ hb => hw0.block b hb)).rep k) (fun b h => by have := hF b h; simp; omega))
  have HV := Lib.hid hv
  have HP := Lib.hid hp
  have HT := Lib.hid ht
  have HKv := Lib.hid hkv
  have HNew := Lib.hid hnew
  have HF := Lib.hid hF
  have HKn := Lib.hid hkn
  have hl2 : (kn.length : Int) ≤ 1 := by omega
  clear hp ht hkv hnew hF hkn hw0 hv
  go_enter Try.func8, Try.ntmps8
  go_wp2_with fail
  refine HW.out.mono ?_
  rintro e w1 ⟨p0, m0, nv, rfl, hL1, hb1, hn1⟩
  have H2 := Lib.hid (two_terms w _ _ hb1)
  have HL1 := Lib.hid hL1
  have HN1 := Lib.hid hn1
  clear hL1 hb1 hn1 HW
  obtain ⟨j0, j1, j2, j3, j4, j5, j6, j7, j8⟩ := nine_tC H2.out.2.1
  go_wp2_with fail
  refine (check_ints hk hlen (fun q hq => (HV.out q hq).2) F _ w1 (HT.out.keep (fun b _ hb => H2.out.2.2.1.block b hb)) (fun b h => by have := HF.out b h; have := H2.out.2.2.2; omega)).mono ?_
  rintro e w2 ⟨rfl, hb2⟩
  have HB2 := Lib.hid hb2
  clear hb2 j0 j1 j2 j3 j4 j5 j6 j7 j8
  go_wp2_with fail
  refine (table_ok kn HKn.out F _ w2 (HKv.out.keep (fun b _ hb => ((H2.out.2.2.1.trans (HB2.out.mono (by have := H2.out.2.2.2; omega))).block b hb))) (fun b h => by have := HF.out b h; have := H2.out.2.2.2; have := HB2.out.size; omega)).mono ?_
  rintro e w3 ⟨m, rfl, hm3, hb3, hm2⟩
  have HM3 := Lib.hid hm3
  have HB3 := Lib.hid (HB2.out.trans (hb3.mono HB2.out.size))
  have hmw1 : w1.heap.size ≤ m := by have := HB2.out.size; omega
  clear hm3 hb3 hm2 HB2
  go_upto_region 11 with fail
  have HO4 : Hid (setAt (w3.alloc (.map #[] 0)) w3.heap.size 0 []) := Lib.hid (World.ownsMap_made w3 _ _ _)
  have HM4 := Lib.hid (HM3.out.alloc (.map #[] 0))
  have HB4 := Lib.hid (HB3.out.alloc HB3.out.size (.map #[] 0))
  have hmo := HM3.out.lt
  have ho1 : w1.heap.size ≤ w3.heap.size := HB3.out.size
  have hos : w3.heap.size < (w3.alloc (.map #[] 0)).heap.size := by simp
  clear HM3 HB3
  generalize w3.alloc (.map #[] 0) = w4 at *
  generalize w3.heap.size = mo at *
  go_wp2_with (at_range; go_loud (refine wpList_range_own _ rfl _ 50 rfl 9 31 lawS Try.underlying50 heldR m _ _ rfl HM4.out ?_; intro w5 hr5 hg5 hs5; have HR5 := Lib.hid hr5; have HG5 := Lib.hid hg5; clear hr5 hg5))
  go_frame
  have HS5 : Hid (setAt w5 mo 0 []) := Lib.hid (map_same HO4.out (HG5.out.block mo hos (by simp)))
  have HB5 : Hid (Below w1.heap.size w1 w5) := Lib.hid (HB4.out.trans ⟨HG5.out.os, HG5.out.tape, HG5.out.output, HG5.out.size, fun i hi => HG5.out.block i (by have := HB4.out.size; omega) (by simp)⟩)
  have hrr : mo < w4.heap.size := hos
  clear HO4 HM4 HB4 HG5
  generalize w4.heap.size = rr at *
  have hsz : Maps.size (bindM (kn.map bdP)) = kn.length := by
    rw [size_bindM (by have := HKn.out.nd; rw [List.map_map]; exact this), List.length_map]
  rw [hsz] at HR5
  go_loopg [44] kn.length (fun gk t44 wr => ∃ (left : Lit → Bool) (L : List ByteArray), wr.ranges Try.prog 9 heldR m rr kn.length (bindM (kn.map bdP)) left gk ∧ setAt wr mo L.length L ∧ L.length + gk ≤ kn.length ∧ (∀ s, s ∈ L → s ∈ kn.map Bd.nm) ∧ (∀ s, left (key s) = true → s ∈ kn.map Bd.nm) ∧ (∀ s, s ∈ kn.map Bd.nm → left (key s) = true ∨ s ∈ L) ∧ Below w1.heap.size w1 wr)
  case atStart =>
    have hh : ∀ s, Maps.has (bindM (kn.map bdP)) (key s) = true ↔ s ∈ kn.map Bd.nm := fun s => by
      rw [has_bindM, decide_eq_true_iff, List.map_map]
      rfl
    exact ⟨Maps.has (bindM (kn.map bdP)), [], HR5.out, HS5.out, by simp, by simp, fun s h => (hh s).1 h, fun s h => .inl ((hh s).2 h), HB5.out⟩
  case round =>
    obtain ⟨left, L, hrg, hset, hlg, hL1', hL2', hL3', hB⟩ := hrel
    have HRg := Lib.hid hrg
    have HSt := Lib.hid hset
    have HA1 := Lib.hid hL1'
    have HA2 := Lib.hid hL2'
    have HA3 := Lib.hid hL3'
    have HBr := Lib.hid hB
    have HLg := Lib.hid hlg
    clear hrg hset hL1' hL2' hL3' hB hlg HR5 HS5 HB5
    go_wp2_with (at_next; go_loud (refine wpList_next_ranges _ rfl _ rfl 9 lawS heldR Value.string (fun c : Value => c) (fun key kl h => by obtain ⟨s, e, _, _⟩ := key_inv h; exact ⟨s, e⟩) (fun v y _ => ⟨v, rfl⟩) m rr _ _ _ _ rfl HRg.out ?_ ?_))
    · intro hc0 hl0
      have HL0 : Hid (∀ s, s ∈ kn.map Bd.nm → s ∈ L) := Lib.hid (fun s h => (HA3.out s h).elim (fun e => by rw [hl0] at e; cases e) id)
      have HM6 := Lib.hid HRg.out.owns
      clear hc0 hl0 HA2 HA3 HRg HLg
      have H6a := Lib.hid ((HBr.out.block w.heap.size (by have := H2.out.2.2.2; omega)).trans H2.out.1)
      have H6b := Lib.hid ((HBr.out.block (w.heap.size + 1) H2.out.2.2.2).trans H2.out.2.1)
      obtain ⟨j0, j1, j2, j3, j4, j5, j6, j7, j8⟩ := nine_tC H6a.out
      obtain ⟨k0, k1, k2, k3, k4, k5, k6, k7, k8⟩ := nine_tC H6b.out
      go_wp2_with fail
      have hw1m : ∀ b, F b → b < w1.heap.size := fun b h => by have := HF.out b h; have := H2.out.2.2.2; omega
      have HKp : Hid (∀ b, F b → b < w.heap.size → wr.heap[b]? = w.heap[b]?) := Lib.hid (fun b h hb => (HBr.out.block b (hw1m b h)).trans (H2.out.2.2.1.block b hb))
      have hnm : (kn.map bdP).map (·.1) = kn.map Bd.nm := by rw [List.map_map]; rfl
      refine (fits_ok k hk qs hlen HV.out (kn.map bdP) (by rw [hnm]; exact HNew.out) (by rw [hnm]; exact HKn.out.nd) F (.slice pa qs.length pc) (.slice ta qs.length tc) m kn.length wr (HP.out.keep HKp.out) (HT.out.keep HKp.out) HM6.out (by omega) (fun b h => ⟨by have := hw1m b h; omega, by have := hw1m b h; have := HBr.out.size; omega⟩)).mono ?_
      rintro e w7 ⟨hT7, hans⟩
      have HB7 : Hid (Below w1.heap.size w1 w7) := Lib.hid (HBr.out.trans (hT7.below HBr.out.size (fun i e => by omega)))
      have HS7 : Hid (setAt w7 mo L.length L) := Lib.hid (map_same HSt.out (hT7.block mo HSt.out.lt (by omega)))
      have HBA : Hid (Below w.heap.size w w7) := Lib.hid (H2.out.2.2.1.trans (HB7.out.mono (by have := H2.out.2.2.2; omega)))
      clear hT7 HBr HSt HKp hw1m j0 j1 j2 j3 j4 j5 j6 j7 j8 k0 k1 k2 k3 k4 k5 k6 k7 k8 H6a H6b HM6
      rcases hans with ⟨B, hB, rfl, hBl, hM7⟩ | ⟨hN, rfl⟩
      · have HFit := Lib.hid hB
        have HM7 := Lib.hid hM7
        have HBl := Lib.hid hBl
        clear hB hM7 hBl
        have HInv := Lib.hid (fitM_inv qs [] B HFit.out (by simp))
        have hBq : B.length ≤ 256 := by have := HBl.out; omega
        have HNd := Lib.hid (keys_nd (B0 := kn.map bdP) (qs := qs) (B := B) ⟨HInv.out.1, fun q h => (HInv.out.2.1 q h).elim (fun e => by cases e) id⟩ (by rw [hnm]; exact HNew.out) (by rw [hnm]; exact HKn.out.nd))
        have HLen : Hid (∀ ty, (Builtin.len_ #[50] ty #[.map (some m)]).run Try.prog w7 = .ok (.int .i64 ((kn.length + B.length : Nat) : Int)) w7) := Lib.hid (fun ty => by
          have := HM7.out.len Try.underlying50 ty
          rw [size_bindM HNd.out, List.length_append, List.length_map, List.length_map] at this
          exact this)
        have hlen7 := HLen.out
        by_cases h64 : 64 < kn.length + B.length
        · have hd : decide ((64 : Int) < ((kn.length + B.length : Nat) : Int)) = true := decide_eq_true (by omega)
          clear HLen
          go_wp2_with fail
          go_ret3
          exact ⟨HBA.out, .inl ⟨B, HFit.out, h64, rfl⟩⟩
        · have hd : decide ((64 : Int) < ((kn.length + B.length : Nat) : Int)) = false := decide_eq_false (by omega)
          clear HLen hlen7
          obtain ⟨i0, hi, hz0, hz1, hz2⟩ := info_parts infoBind
          have X1 := Lib.hid hi
          have X2 := Lib.hid hz0
          have X3 := Lib.hid hz1
          have X4 := Lib.hid hz2
          clear hi hz0 hz1 hz2
          have hlen7 := HM7.out.len Try.underlying50
          rw [size_bindM HNd.out, List.length_append, List.length_map, List.length_map] at hlen7
          have HKv7 := Lib.hid (HKv.out.keep (fun b _ hb => HBA.out.block b hb))
          have HF7 : Hid (∀ b, F b → b < w7.heap.size) := Lib.hid (fun b h => by have := HF.out b h; have := HBA.out.size; omega)
          go_wp2_with fail
          clear hlen7 hd
          go_loopw [16, 60] (fun t16 t60 wx => ∃ i : Nat, i ≤ kn.length ∧ t60 = .int .i64 i ∧ wx.ownsRow w7.heap.size 36 10 t16 i (bcat (kn.take i)) ∧ Below w7.heap.size w7 wx) (fun _ t60 _ => kn.length - (intOf t60).toNat)
          case atStart => exact ⟨0, by omega, rfl, World.ownsRow_nil _ _ _ _, Below.refl _ _⟩
          case round =>
            obtain ⟨i, hi, rfl, hO, hB⟩ := hrel
            obtain ⟨xa, xc, rfl⟩ := row_slice hO
            have HO := Lib.hid hO
            have HBx := Lib.hid hB
            clear hO hB
            by_cases hlt : i < kn.length
            · obtain ⟨g, cap, hvg, hg, h10⟩ := HKv7.out.ten hlt
              cases hvg
              have hgw := HF7.out g hg
              have h10' := h10.block (HBx.out.block g hgw)
              have HRt := Lib.hid (HKn.out.right _ (List.getElem_mem hlt))
              have HTk := Lib.hid (show kn.take (i + 1) = kn.take i ++ [kn[i]] from List.take_succ_eq_append_getElem hlt)
              obtain ⟨bd, hbd⟩ : ∃ bd, kn[i]'hlt = bd := ⟨_, rfl⟩
              rw [hbd] at h10' HRt HTk
              clear hbd h10 hg hgw
              obtain ⟨bn, bk, bx, bs⟩ := bd
              obtain ⟨c0, c1, c2, c3, c4, c5, c6, c7, c8, c9⟩ := h10'
              simp only at c0 c1 c2 c4
              have hlt' : (i : Int) < (kn.length : Int) := by omega
              have hi0 : (0 : Int) ≤ (i : Int) := by omega
              go_upto_region 23 with fail
              have HX := Lib.hid (heap_new wr (.cells (bdC ⟨bn, bk, bx, bs⟩) 36))
              have HO8 := Lib.hid (HO.out.alloc (.cells (bdC ⟨bn, bk, bx, bs⟩) 36))
              have HB8 := Lib.hid (HBx.out.alloc HBx.out.size (.cells (bdC ⟨bn, bk, bx, bs⟩) 36))
              have htl : wr.heap.size < (wr.alloc (.cells (bdC ⟨bn, bk, bx, bs⟩) 36)).heap.size := by simp
              have HXa : Hid (∀ b, (Value.slice xa i xc).ownBlock = some b → b ≠ wr.heap.size) := Lib.hid (fun b e => by have := (HO.out.lt b e).2; omega)
              clear HO HBx c0 c1 c2 c3 c4 c5 c6 c7 c8 c9
              generalize wr.alloc (.cells (bdC ⟨bn, bk, bx, bs⟩) 36) = w8 at *
              generalize wr.heap.size = tt at *
              obtain ⟨c0, c1, c2, c3, c4, c5, c6, c7, c8, c9⟩ := ten_at HX.out
              have HOw : Hid (∀ w3, Below w8.heap.size w8.drew w3 → w3.ownsRow w7.heap.size 36 10 (.slice xa i xc) i (bcat (kn.take i)) ∧ Below w7.heap.size w7 w3 ∧ w3.heap[tt]? = some (.cells (bdC ⟨bn, bk, bx, bs⟩) 36 (0, 0)) ∧ (w3.cell? ⟨tt, 0, none⟩ = some (.string bn) ∧ w3.cell? ⟨tt, 1, none⟩ = some (.int .i64 bk) ∧ w3.cell? ⟨tt, 2, none⟩ = some (.int .i64 bx) ∧ w3.cell? ⟨tt, 3, none⟩ = some (.complex .f64 0 0) ∧ w3.cell? ⟨tt, 4, none⟩ = some (.string bs) ∧ w3.cell? ⟨tt, 5, none⟩ = some (.int .i64 0) ∧ w3.cell? ⟨tt, 6, none⟩ = some (.int .u32 0) ∧ w3.cell? ⟨tt, 7, none⟩ = some (.int .u64 0) ∧ w3.cell? ⟨tt, 8, none⟩ = some (nilV) ∧ w3.cell? ⟨tt, 9, none⟩ = some (nilV))) := Lib.hid (fun w3 hb => ⟨row_same HO8.out (fun b _ hl => hb.block b hl), HB8.out.drew.trans (hb.mono HB8.out.size), (hb.block tt htl).trans HX.out, ten_at ((hb.block tt htl).trans HX.out)⟩)
              have HL1' := Lib.hid (show i + 1 ≤ maxLen by unfold maxLen; omega)
              have HL2' := Lib.hid (show (i + 1) * 136 ≤ 140737488355328 by omega)
              go_region_held3 (fun w' => w'.cell? ⟨tt, 0, none⟩ = some (.string bn) ∧ w'.cell? ⟨tt, 1, none⟩ = some (.int .i64 bk) ∧ w'.cell? ⟨tt, 2, none⟩ = some (.int .i64 bx) ∧ w'.cell? ⟨tt, 3, none⟩ = some (.complex .f64 0 0) ∧ w'.cell? ⟨tt, 4, none⟩ = some (.string bs) ∧ w'.cell? ⟨tt, 5, none⟩ = some (.int .i64 0) ∧ w'.cell? ⟨tt, 6, none⟩ = some (.int .u32 0) ∧ w'.cell? ⟨tt, 7, none⟩ = some (.int .u64 0) ∧ w'.cell? ⟨tt, 8, none⟩ = some (nilV) ∧ w'.cell? ⟨tt, 9, none⟩ = some (nilV)) (first
                | (with_reducible exact hSz)
                | (with_reducible exact hS3)
                | go_keep)
                (first
                  | (go_at_call 18; refine (copy_leaf bk bx bs HRt.out _).mono ?_; rintro e wa ⟨rfl, hba⟩; have HOa := Lib.hid (HOw.out _ hba); have hS3 : wa.cell? ⟨tt, 0, none⟩ = some (.string bn) ∧ wa.cell? ⟨tt, 1, none⟩ = some (.int .i64 bk) ∧ wa.cell? ⟨tt, 2, none⟩ = some (.int .i64 bx) ∧ wa.cell? ⟨tt, 3, none⟩ = some (.complex .f64 0 0) ∧ wa.cell? ⟨tt, 4, none⟩ = some (.string bs) ∧ wa.cell? ⟨tt, 5, none⟩ = some (.int .i64 0) ∧ wa.cell? ⟨tt, 6, none⟩ = some (.int .u32 0) ∧ wa.cell? ⟨tt, 7, none⟩ = some (.int .u64 0) ∧ wa.cell? ⟨tt, 8, none⟩ = some (nilV) ∧ wa.cell? ⟨tt, 9, none⟩ = some (nilV) := HOa.out.2.2.2; clear hba)
                  | (refine step_app (by rfl) (.tmp 64) (.tmp 71) 34 34 (by rfl) w7.heap.size 36 i0 (.agg zB) 10 136 Try.underlying34 X1.out X2.out X3.out X4.out rfl (by decide) (.slice xa i xc) i (bcat (kn.take i)) (by rfl) (HOa.out.1.alloc _) (.slice (some ⟨wa.heap.size, 0, none⟩) 1 1) 1 (bdC ⟨bn, bk, bx, bs⟩).toList (by rfl) (src_new Try.underlying34 (bdC ⟨bn, bk, bx, bs⟩) rfl 36 (bd_one _) wa) HL1'.out HL2'.out (by have := HOa.out.2.1.size; simp; omega) ?_; intro a4 c4' wz ho4 hg4 hl4; have HBz := Lib.hid (grown_below HOa.out.2.1 HOa.out.2.1.size HOa.out.1 hg4); have HOz := Lib.hid ho4; have hSz : wz.cell? ⟨tt, 0, none⟩ = some (.string bn) ∧ wz.cell? ⟨tt, 1, none⟩ = some (.int .i64 bk) ∧ wz.cell? ⟨tt, 2, none⟩ = some (.int .i64 bx) ∧ wz.cell? ⟨tt, 3, none⟩ = some (.complex .f64 0 0) ∧ wz.cell? ⟨tt, 4, none⟩ = some (.string bs) ∧ wz.cell? ⟨tt, 5, none⟩ = some (.int .i64 0) ∧ wz.cell? ⟨tt, 6, none⟩ = some (.int .u32 0) ∧ wz.cell? ⟨tt, 7, none⟩ = some (.int .u64 0) ∧ wz.cell? ⟨tt, 8, none⟩ = some (nilV) ∧ wz.cell? ⟨tt, 9, none⟩ = some (nilV) := ten_at (keep_tt HXa.out hg4 HOa.out.2.2.1); clear hg4 ho4 hl4))
              all_goals
                go_wp2_with fail
                go_round
                case rel => exact ⟨i + 1, by omega, by go_num, by rw [HTk.out, bcat_app]; exact HOz.out, HBz.out⟩
                case measure => simp [intOf]; omega
            · obtain rfl : i = kn.length := by omega
              rw [List.take_length] at HO
              have hNm : namesP ((varL qs).map lvT) = B.map (·.1) := names_fit qs [] B HFit.out
              rw [hNm] at HL1
              have HLx := Lib.hid (HL1.out.below (HB7.out.trans (HBx.out.mono HB7.out.size)))
              obtain ⟨na, nc, hnv⟩ := row_slice HLx.out.row
              rw [List.length_map] at hnv
              subst hnv
              have HLr : Hid (w7.ownsRow 0 9 1 (.slice na B.length nc) B.length ((B.map (·.1)).map .string)) := Lib.hid (by
                have := (HL1.out.below HB7.out).row
                rw [List.length_map] at this
                exact this)
              have n1 := HLx.out.cells.2.1
              have hB2 : (B.length : Int) ≤ 256 := by omega
              go_wp2_with fail
              clear n1 HLx HKv7 HF7
              go_loopw [16, 79] (fun t16 t79 wx => ∃ j : Nat, j ≤ B.length ∧ t79 = .int .i64 j ∧ wx.ownsRow w7.heap.size 36 10 t16 (kn.length + j) (bcat (kn ++ (B.take j).map bdI)) ∧ Below w7.heap.size w7 wx) (fun _ t79 _ => B.length - (intOf t79).toNat)
              case atStart => exact ⟨0, by omega, rfl, by simpa using HO.out, HBx.out⟩
              case round =>
                obtain ⟨j, hj, rfl, hO, hB⟩ := hrel
                obtain ⟨ya, yc, rfl⟩ := row_slice hO
                have HOj := Lib.hid hO
                have HBj := Lib.hid hB
                clear hO hB HO HBx
                by_cases hlt : j < B.length
                · rcases HLr.out.2 with ⟨_, h0⟩ | ⟨gn, cap, cur, hvn, _, hgh, _⟩
                  · exact absurd h0 (by omega)
                  cases hvn
                  have hgn : gn < w7.heap.size := (Array.getElem?_eq_some_iff.1 hgh).1
                  have hnc := (HLr.out.cells (g := gn) rfl j (.string (B[j]'hlt).1) (by simp [hlt]))
                  simp only [Addr.add_lit, Nat.zero_add] at hnc
                  have n1 : wr.cell? ⟨gn, j, none⟩ = some (.string (B[j]'hlt).1) := (HBj.out.cell (p := ⟨gn, j, none⟩) hgn).trans hnc
                  have hmem := List.getElem_mem hlt
                  have hqs : B[j]'hlt ∈ qs := (HInv.out.2.1 _ hmem).elim (fun e => by cases e) id
                  have HTk := Lib.hid (show B.take (j + 1) = B.take j ++ [B[j]'hlt] from List.take_succ_eq_append_getElem hlt)
                  obtain ⟨q, hq⟩ : ∃ q, B[j]'hlt = q := ⟨_, rfl⟩
                  rw [hq] at n1 hmem hqs HTk
                  clear hq hnc hgh hgn
                  obtain ⟨qn, qx⟩ := q
                  simp only at n1
                  have HKe := Lib.hid (keyS (s := qn) (by have := (HV.out _ hqs).1.le; unfold maxLen; simp only at this; omega))
                  have HAt := Lib.hid (at_bindM HNd.out (List.mem_append_right (kn.map bdP) (List.mem_map_of_mem (f := intB) hmem)) (.held (lfV 0 0 ⟨#[]⟩)))
                  have HAo : Hid ((setM L).atKey (key qn) (num 0) = num 0) := Lib.hid (by rw [at_setM, if_neg (fun h => HNew.out _ hqs (HA1.out _ h))])
                  have HRt := Lib.hid (right_int qx (HV.out _ hqs).2)
                  have HSj : Hid (setAt wr mo L.length L) := Lib.hid (map_same HS7.out (HBj.out.block mo HS7.out.lt))
                  have HMj : Hid (bindAt wr m (kn.length + B.length) (kn.map bdP ++ B.map intB)) := Lib.hid (map_same HM7.out (HBj.out.block m HM7.out.lt))
                  have hlt' : (j : Int) < (B.length : Int) := by omega
                  have hj0 : (0 : Int) ≤ (j : Int) := by omega
                  clear hmem hqs
                  simp only at HAt
                  go_wp2_with (first
                    | (at_lookup; refine wpList_lookup_own_int _ rfl _ _ 53 rfl 9 3 .i64 lawS Try.underlying53 Try.underlying3 (zeroI _) mo _ _ rfl HSj.out _ _ rfl HKe.out ?_; intro cc hat hwc; obtain rfl : cc = 0 := (at_one (HAo.out.symm.trans hat)); clear hat hwc)
                    | (at_lookup; refine wpList_held _ rfl _ _ 50 rfl 9 31 lawS Try.underlying50 (lfV 0 0 ⟨#[]⟩) (zeroT _) m _ _ rfl HMj.out _ _ rfl HKe.out _ HAt.out ?_))
                  refine (copy_leaf 1 qx ⟨#[]⟩ HRt.out _).mono ?_
                  rintro e wa ⟨rfl, hba⟩
                  have HOa := Lib.hid (row_below HOj.out hba)
                  have HBa := Lib.hid (HBj.out.trans (hba.mono HBj.out.size))
                  have HL1' := Lib.hid (show kn.length + j + 1 ≤ maxLen by unfold maxLen; omega)
                  have HL2' := Lib.hid (show (kn.length + j + 1) * 136 ≤ 140737488355328 by omega)
                  clear hba n1 HSj HMj HOj HBj
                  go_wp2_with (at_builtin; go_loud (refine wpList_app _ rfl (.tmp 87) (.tmp 94) 34 34 rfl w7.heap.size 36 i0 (.agg zB) 10 136 Try.underlying34 X1.out X2.out X3.out X4.out rfl (by decide) _ _ _ rfl (HOa.out.alloc _) _ 1 (bdC ⟨qn, 1, qx, ⟨#[]⟩⟩).toList rfl (src_new Try.underlying34 (bdC ⟨qn, 1, qx, ⟨#[]⟩⟩) rfl 36 (bd_one _) wa) HL1'.out HL2'.out (by have := HBa.out.size; simp; omega) ?_; intro a4 c4 wz ho4 hg4 hn4 hl4; have HBz := Lib.hid (grown_below HBa.out HBa.out.size HOa.out hg4); have HOz := Lib.hid ho4; clear hg4 ho4 hl4 hn4))
                  go_round
                  case rel => exact ⟨j + 1, by omega, by go_num, by rw [HTk.out, List.map_append, List.map_singleton, ← List.append_assoc, bcat_app]; exact HOz.out, HBz.out⟩
                  case measure => simp [intOf]; omega
                · obtain rfl : j = B.length := by omega
                  go_wp2_with fail
                  go_ret3
                  refine ⟨HBA.out.trans (HBj.out.mono HBA.out.size), .inr (.inl ⟨B, _, HFit.out, by omega, rfl, ?_⟩)⟩
                  have := HOj.out
                  rw [List.take_length] at this
                  exact row_base this HBA.out.size
      · have HN := Lib.hid hN
        clear hN
        go_wp2_with fail
        go_ret3
        exact ⟨HBA.out, .inr (.inr ⟨HN.out, rfl⟩)⟩
    · intro x c kl d ps w6 cnt' hkey hlk hv hat hrg6 hlt hg6 hs6 hen
      obtain ⟨s, hs1, rfl, hs2⟩ := key_inv hkey
      cases hs1
      have HKe := Lib.hid hkey
      have HR6 := Lib.hid hrg6
      have HG6 := Lib.hid hg6
      have HLk := Lib.hid hlk
      have hrm : mo < rr := hrr
      have HS6 : Hid (setAt w6 mo L.length L) := Lib.hid (map_same HSt.out (hg6.block mo HSt.out.lt (by simp; omega)))
      have HLt := Lib.hid (show L.length < maxLen by have := HLg.out; unfold maxLen; omega)
      clear hkey hlk hv hat hrg6 hg6 HRg HSt
      go_wp2_with (at_mapUpdate; go_loud (refine wpList_mapUpdate_own _ rfl _ _ _ 53 rfl 9 3 lawS Try.underlying53 _ mo _ _ rfl HS6.out HLt.out _ _ _ rfl rfl HKe.out (num 1) [] (plainElem_int Try.underlying3 (WalkArith.wf_i64 (by omega))) ?_; intro w7 hm7 hg7; have HM7 := Lib.hid hm7; have HG7 := Lib.hid hg7; clear hm7 hg7))
      go_roundg cnt'
      case measure => exact hlt
      case rel =>
        refine ⟨_, L ++ [x], HR6.out.kept HG7.out (by simp; omega) (by simp; omega), by rw [List.length_append]; exact set_snoc HM7.out, by have := HLg.out; simp; omega, ?_, ?_, ?_, ?_⟩
        · intro s hs
          rcases List.mem_append.1 hs with h | h
          · exact HA1.out s h
          · rw [List.mem_singleton] at h
            exact h ▸ HA2.out x HLk.out
        · intro s hs
          simp only [Bool.and_eq_true] at hs
          exact HA2.out s hs.1
        · intro s hs
          rcases HA3.out s hs with h | h
          · by_cases e : s = x
            · exact .inr (by simp [e])
            · refine .inl ?_
              have : (key s).sameKey (key x) = false := by
                cases hh : (key s).sameKey (key x) with
                | false => rfl
                | true => exact absurd ((same_key s x).1 hh) e
              simp only [h, this, Bool.not_false, Bool.and_self]
          · exact .inr (by simp [h])
        · exact HBr.out.trans ⟨HG7.out.os.trans HG6.out.os, HG7.out.tape.trans HG6.out.tape, HG7.out.output.trans HG6.out.output, by have := HG6.out.size; have := HG7.out.size; have := HBr.out.size; omega, fun i hi => (HG7.out.block i (by have := HG6.out.size; have := HBr.out.size; omega) (by simp; omega)).trans (HG6.out.block i (by have := HBr.out.size; omega) (by simp; omega))⟩
end Go.Proofs.Ytlgpdpadaknnaaa
