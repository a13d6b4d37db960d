/- ties.Lost, walked. (Printed by genE.py.) -/
import Derived.Test.YtkpeelhanmekdaaD3
namespace Go.Proofs.Ytkpeelhanmekdaa
set_option linter.unusedVariables false
set_option linter.unusedSimpArgs false
set_option linter.constructorNameAsVariable false
open Go.Shelf Go.RowKit Go.Lib Go.Proofs
set_option maxRecDepth 100000
attribute [local go_sem] run_store_complex

/-- so many of l are gone over, q signals are told -/
def LostS {α : Type} (p ml mm mt : Nat) (me : Idd) (B : Nat) (v0 : Value) (W2 : World) (q0 : Nat) (cnt : List α → Nat) (l : List α) (R : Nat → World → Nat → Value → Prop) (t5 t17 : Value) (wr : World) : Prop :=
  ∃ (i : Nat) (a : Option Addr) (c q : Nat), t17 = .int .i64 i ∧ i ≤ l.length ∧ t5 = .slice a q c ∧ q = q0 + cnt (l.take i) ∧ R i wr q (.slice a q c)
abbrev nocon : ByteArray := ⟨#[110, 111, 99, 111, 110, 110, 101, 99, 116, 105, 111, 110]⟩
def LostPost (p ml mm mt : Nat) (me : Idd) (L : List Idd) (M T : List (Idd × Idd)) (nd : Nat) (w : World) (e : Ending) (w' : World) : Prop :=
  ∃ (a : Option Addr) (c n : Nat), e = .returned (.slice a n c) ∧ n = (hereL nd L).length + (hereM nd M).length ∧ TiesAt w' p ml mm mt me (awayL nd L) (awayM nd M) (awayM nd T) ∧ Turn (TS ml mm mt) w w'
set_option maxHeartbeats 8000000 in
theorem lost_any (hS : SortTold) (hN : NoneTold) (nd : Nat) (p ml mm mt : Nat) (me : Idd) (L : List Idd) (M T : List (Idd × Idd)) (w : World) (ht : TiesAt w p ml mm mt me L M T) (hl : L.length ≤ 256) (hl1 : M.length ≤ 256) (hl2 : T.length ≤ 256) :
    Calls Try.prog 13 #[.pointer (some ⟨p, 0, none⟩), .int .i64 nd] w (LostPost p ml mm mt me L M T nd w) := by
  obtain ⟨i0, hi, hz0, hz1, hz2⟩ := info_parts infoSg
  have X1 := Lib.hid hi
  have X2 := Lib.hid hz0
  have X3 := Lib.hid hz1
  have X4 := Lib.hid hz2
  have HSo := Lib.hid hS
  have HNo := Lib.hid hN
  have H := Lib.hid ht
  have HKm := Lib.hid (show (M.map (·.1)).Nodup from by have := ht.mine.nd; rwa [pv_fst] at this)
  have HKt := Lib.hid (show (T.map (·.1)).Nodup from by have := ht.theirs.nd; rwa [pv_fst] at this)
  clear hi hz0 hz1 hz2 hS hN ht
  go_enter Try.func13, Try.ntmps13
  go_wp2_with fail
  refine (links_any HSo.out HNo.out p ml mm mt me L M T w H.out hl).mono ?_
  rintro e w1 ⟨a1, c1, ids, rfl, hp, ho, hb⟩
  rw [lv_fst] at hp
  have HPe1 := Lib.hid hp
  have hil : ids.length ≤ 256 := by rw [hp.length_eq]; exact hl
  have HO1 := Lib.hid ho
  have HB1 := Lib.hid hb
  have H1 := Lib.hid (H.out.below hb)
  have HLT := Lib.hid (show p < w1.heap.size ∧ ml < w1.heap.size ∧ mm < w1.heap.size ∧ mt < w1.heap.size from ⟨H1.out.lt, H1.out.links.lt, H1.out.mine.lt, H1.out.theirs.lt⟩)
  have HNT := Lib.hid (show ∀ g, w.heap.size ≤ g ∨ w.heap.size ≤ g → ¬ TS ml mm mt g from fun g hg e => by
    rcases e with rfl | rfl | rfl
    · have := H.out.links.lt; omega
    · have := H.out.mine.lt; omega
    · have := H.out.theirs.lt; omega)
  clear hp ho hb
  go_wp2_with fail
  obtain ⟨z0, hz0⟩ : ∃ z : Nat, z = 0 := ⟨_, rfl⟩
  have HZ0 := Lib.hid hz0
  clear hz0
  have HIk := Lib.hid (fun (x : Idd) (h : x ∈ L) => (H1.out.okL x h).in')
  go_loopw [5, 17] (fun t5 t17 wr => LostS p ml mm mt me w1.heap.size nilV w1 0 (fun ds => (hereL nd ds).length) ids (fun i wr q v => LostAt p ml mm mt me w1.heap.size nilV w1 q v (leftL nd L (ids.take i)) M T wr) t5 t17 wr) (fun _ t _ => ids.length - (intOf t).toNat)
  case atStart => exact ⟨0, none, 0, z0, rfl, Nat.zero_le _, by rw [HZ0.out], by rw [HZ0.out]; rfl, ⟨[], by rw [HZ0.out]; exact OutSt.start rfl (World.ownsRow_nil _ _ _ _)⟩, by rw [List.take_zero, leftL_nil]; exact H1.out, HLT.out.1, HLT.out.2.1, HLT.out.2.2.1, HLT.out.2.2.2⟩
  case round =>
    obtain ⟨i, a5, c5, q, rfl, hi, rfl, hq, hO⟩ := hrel
    have HQ := Lib.hid (show q = 0 + (hereL nd (ids.take i)).length from hq)
    clear hq
    have HO := Lib.hid hO
    clear hO
    by_cases hlt : i < ids.length
    · obtain ⟨g, rfl, hgb, hgl, hgc, hgm, hcell⟩ := row_id HO1.out hlt
      have HT := Lib.hid (take_succ hlt)
      have HIn := Lib.hid (HPe1.out.mem_iff.1 (List.getElem_mem hlt))
      generalize ids[i] = x at *
      obtain ⟨sg0, hsg⟩ := HO.out.out
      have HL := Lib.hid (show ∀ j v, (idC x)[j]? = some v → wr.cell? ⟨g, i * 3 + j, none⟩ = some v from fun j v h => (World.cell?_of_block (hsg.old (b := g) hgl (by simp [Value.ownBlock]) (fun t => HNT.out g (.inr hgb) t))).trans (hcell j v h))
      clear hcell hsg
      by_cases hnd : x.node = nd
      · have hdd : ((x.node : Int) == (nd : Int)) = true := by rw [hnd]; exact beq_self_eq_true _
        have HND := Lib.hid hnd
        clear hnd
        go_upto_region 8 with (refine wpList_load_at rfl 31 (.tmp 19) rfl g (i * 3) rfl (idC x) _ HL.out Try.underlying31 rfl sizeId ?_)
        have HX := Lib.hid (heap_new wr (.cells (idC x) 31))
        have HA2 := Lib.hid ((Below.refl wr.heap.size wr).alloc (Nat.le_refl _) (.cells (idC x) 31))
        have HO2 := Lib.hid (HO.out.below HA2.out)
        have hs2 : wr.heap.size < (wr.alloc (.cells (idC x) 31)).heap.size := by simp
        have HAp := Lib.hid (show ∀ sg, OutSt w1.heap.size (TS ml mm mt) nilV w1 sg q (.slice a5 q c5) wr → ((.slice a5 q c5) : Value).ownBlock ≠ some wr.heap.size from fun sg h => h.apart (.inr (Nat.le_refl _)))
        have hpb : p < wr.heap.size := HO.out.ties.lt
        have HNb := Lib.hid (show ∀ m, (m = ml ∨ m = mm ∨ m = mt) → wr.heap.size ≠ m from fun m h e => by
          rcases h with rfl | rfl | rfl
          · have := HO.out.ties.links.lt; omega
          · have := HO.out.ties.mine.lt; omega
          · have := HO.out.ties.theirs.lt; omega)
        have HSo1 := Lib.hid HO.out.out
        clear HL HO HA2 hdd
        generalize wr.alloc (.cells (idC x) 31) = w2 at *
        generalize wr.heap.size = b at *
        have HS0 : Hid (∀ w' : World, w'.heap[b]? = w2.heap[b]? → w'.cell? ⟨b, 0, none⟩ = some (.int .i64 x.node) ∧ w'.cell? ⟨b, 1, none⟩ = some (.int .u32 x.boot) ∧ w'.cell? ⟨b, 2, none⟩ = some (.int .u64 x.n)) := Lib.hid (fun w' h1 => by
          have e1 := h1.trans HX.out
          refine ⟨?_, ?_, ?_⟩ <;> simp [World.cell?, e1])
        obtain ⟨x0, x1, x2⟩ := HS0.out w2 rfl
        obtain ⟨-, -, -, zm, -, -⟩ := HO2.out.ties.six
        obtain ⟨wd, hrun, hmd, htd⟩ := (HO2.out.ties.links.block (w' := w2.drew) rfl).del Try.underlying49 (HIk.out x HIn.out) 0
        have HMd := Lib.hid hmd
        have HTd := Lib.hid htd
        clear hmd htd
        have hS2 : wd.cell? ⟨b, 0, none⟩ = some (.int .i64 x.node) ∧ wd.cell? ⟨b, 1, none⟩ = some (.int .u32 x.boot) ∧ wd.cell? ⟨b, 2, none⟩ = some (.int .u64 x.n) ∧ wd.cell? ⟨p, 3, none⟩ = some (.map (some ml)) := by
          have hb1 := turned_block HTd.out b hs2 (HNb.out _ (.inl rfl))
          have hb2 := turned_block HTd.out p HO2.out.ties.lt (fun e => HO2.out.ties.not_map (.inl e))
          obtain ⟨y0, y1, y2⟩ := HS0.out wd hb1
          exact ⟨y0, y1, y2, (World.cell?_of_block hb2).trans zm⟩
        go_region_held3 (fun w' => w'.cell? ⟨b, 0, none⟩ = some (.int .i64 x.node) ∧ w'.cell? ⟨b, 1, none⟩ = some (.int .u32 x.boot) ∧ w'.cell? ⟨b, 2, none⟩ = some (.int .u64 x.n) ∧ w'.cell? ⟨p, 3, none⟩ = some (.map (some ml))) (first
            | (with_reducible exact hS2)
            | go_keep) (fail)
        rename_i hHeld
        have HOd := Lib.hid ((HO2.out.below (Below.refl _ w2).drew).delL (L' := leftL nd L (ids.take (i + 1))) (by rw [HT.out, ← leftL_step HND.out, ← without_lv]; exact HMd.out) HTd.out (fun y hy => H.out.okL y (leftL_sub hy)))
        have hsd : b < wd.heap.size := Nat.lt_of_lt_of_le hs2 HTd.out.grown.size
        have HXd := Lib.hid ((turned_block HTd.out b hs2 (HNb.out _ (.inl rfl))).trans HX.out)
        clear hHeld hS2 hrun zm x0 x1 x2 HS0 HMd HTd HX HO2 HNb
        go_upto_region 9 with fail
        have HSt : Hid (∀ w' : World, w'.heap[b]? = wd.heap[b]? → w'.heap[p]? = wd.heap[p]? → w'.cell? ⟨b, 0, none⟩ = some (.int .i64 x.node) ∧ w'.cell? ⟨b, 1, none⟩ = some (.int .u32 x.boot) ∧ w'.cell? ⟨b, 2, none⟩ = some (.int .u64 x.n) ∧ w'.cell? ⟨p, 0, none⟩ = some (.int .i64 me.node) ∧ w'.cell? ⟨p, 1, none⟩ = some (.int .u32 me.boot) ∧ w'.cell? ⟨p, 2, none⟩ = some (.int .u64 me.n)) := Lib.hid (fun w' h1 h2 => by
          have e1 := h1.trans HXd.out
          have e2 := h2.trans HOd.out.ties.cells
          refine ⟨?_, ?_, ?_, ?_, ?_, ?_⟩ <;> simp [World.cell?, e1, e2])
        obtain ⟨sgs, hsgs⟩ := HOd.out.out
        have HO2 := Lib.hid hsgs
        clear hsgs
        have hpd : p < wd.heap.size := HOd.out.ties.lt
        have HNp := Lib.hid (HO2.out.apart (b := p) (.inl HOd.out.lp))
        have HNb := Lib.hid (show ((.slice a5 q c5) : Value).ownBlock ≠ some b from by
          obtain ⟨sg, h⟩ := HSo1.out
          exact HAp.out sg h)
        have hS := HSt.out wd.drew rfl rfl
        have HWc := Lib.hid (Below.refl wd.heap.size wd).drew
        have HRo := Lib.hid (fun o => (HO2.out.row.alloc o).drew)
        have HN1 := Lib.hid (show q + 1 ≤ maxLen by have := HQ.out; have := hereL_le nd (ids.take i); rw [List.length_take] at this; unfold maxLen; omega)
        have HN2 := Lib.hid (show (q + 1) * 208 ≤ 140737488355328 by have := HQ.out; have := hereL_le nd (ids.take i); rw [List.length_take] at this; omega)
        have HB5 := Lib.hid (show w1.heap.size ≤ wd.heap.size from by have := HO2.out.turn.size; omega)
        obtain ⟨x0, x1, x2, x3, x4, x5⟩ := HSt.out wd rfl rfl
        go_region_held3 (fun w' => w'.cell? ⟨b, 0, none⟩ = some (.int .i64 x.node) ∧ w'.cell? ⟨b, 1, none⟩ = some (.int .u32 x.boot) ∧ w'.cell? ⟨b, 2, none⟩ = some (.int .u64 x.n) ∧ w'.cell? ⟨p, 0, none⟩ = some (.int .i64 me.node) ∧ w'.cell? ⟨p, 1, none⟩ = some (.int .u32 me.boot) ∧ w'.cell? ⟨p, 2, none⟩ = some (.int .u64 me.n)) (first
            | (with_reducible exact hS)
            | (with_reducible exact hSa _)
            | (with_reducible exact hS9)
            | go_keep)
          (first
            | (go_at_call 19; refine (atom_any _ _).mono ?_; rintro e wc ⟨rfl, hbc⟩; have hH := HWc.out.trans (hbc.mono HWc.out.size); clear HWc; have HWc := Lib.hid hH; clear hH hbc; have hS := HSt.out _ (HWc.out.block b hsd) (HWc.out.block p hpd); have hSa := fun o => HSt.out (wc.alloc o) ((Below.heap_alloc wc o b (Nat.lt_of_lt_of_le hsd HWc.out.size)).trans (HWc.out.block b hsd)) ((Below.heap_alloc wc o p (Nat.lt_of_lt_of_le hpd HWc.out.size)).trans (HWc.out.block p hpd)); have HO2c := Lib.hid (HO2.out.below HWc.out); clear HRo; have HRo := Lib.hid (fun o => HO2c.out.row.alloc o); have HXb := Lib.hid (fun o => (Below.refl wc.heap.size wc).alloc (Nat.le_refl _) o); have HSr := Lib.hid (fun w => src_new Try.underlying38 (sgC 4 x me id0 3 0 nocon 1) rfl 47 (sg_one _ _ _ _ _ _ _ _) w); have HN3 := Lib.hid (show ∀ o, w1.heap.size ≤ (wc.alloc o).heap.size from fun o => by have := HWc.out.size; have := HB5.out; simp; omega))
            | (refine step_app (by rfl) (.tmp 30) (.tmp 38) 38 38 (by rfl) w1.heap.size 47 i0 (.agg sgZ) 20 208 Try.underlying38 X1.out X2.out X3.out X4.out rfl (by decide) (.slice a5 q c5) q _ (by rfl) (HRo.out _) _ 1 (sgC 4 x me id0 3 0 nocon 1).toList (by rfl) (HSr.out _) HN1.out HN2.out (HN3.out _) ?_; intro a4 c4 wz ho4 hg4 hl4; have HOz := Lib.hid ((HOd.out.below HWc.out).app HO2c.out (HXb.out _) ho4 hg4 hl4); have hS9 := HSt.out wz ((hg4.block b (by have := HWc.out.size; simp; omega) (fun e => HNb.out e.symm)).trans ((Below.heap_alloc wc _ b (by have := HWc.out.size; omega)).trans (HWc.out.block b hsd))) ((hg4.block p (by have := HWc.out.size; simp; omega) (fun e => HNp.out e.symm)).trans ((Below.heap_alloc wc _ p (by have := HWc.out.size; omega)).trans (HWc.out.block p hpd))); clear ho4 hg4 hl4))
        rename_i hHeld
        have HQ2 := Lib.hid (show q + 1 = 0 + (hereL nd (ids.take (i + 1))).length from by rw [HT.out, hereL_in HND.out, HQ.out]; omega)
        clear hHeld hS9 hS hSa x0 x1 x2 x3 x4 x5 HSr HRo HNp HNb HSt HXd HO2 HO2c HT HOd HWc HXb HQ HN1 HN2 HN3
        go_wp2_with fail
        go_roundw
        case rel => exact ⟨i + 1, a4, c4, q + 1, by go_num, hlt, rfl, HQ2.out, HOz.out⟩
        case measure => simp [intOf]; omega
      · have hdd : ((x.node : Int) == (nd : Int)) = false := by rw [beq_eq_false_iff_ne]; omega
        have hnd := Lib.hid hnd
        have HO2 := Lib.hid (show LostAt p ml mm mt me w1.heap.size nilV w1 q (.slice a5 q c5) (leftL nd L (ids.take (i + 1))) M T _ from by rw [HT.out, leftL_skip hnd.out]; exact HO.out.below ((Below.refl wr.heap.size wr).alloc (Nat.le_refl _) (.cells (idC x) 31)))
        clear HO
        have HQ2 := Lib.hid (show q = 0 + (hereL nd (ids.take (i + 1))).length from by rw [HT.out, hereL_out hnd.out]; exact HQ.out)
        clear HQ
        go_wp2_with (refine wpList_load_at rfl 31 (.tmp 19) rfl g (i * 3) rfl (idC x) _ HL.out Try.underlying31 rfl sizeId ?_)
        go_roundw
        case rel => exact ⟨i + 1, a5, c5, q, by go_num, hlt, rfl, HQ2.out, HO2.out⟩
        case measure => simp [intOf]; omega
    · obtain rfl : i = ids.length := by omega
      have HQ1 := Lib.hid (show q = (hereL nd L).length from by have := HQ.out; rw [List.take_length, hereL_perm HPe1.out] at this; omega)
      have HO3 := Lib.hid (show LostAt p ml mm mt me w1.heap.size nilV w1 q (.slice a5 q c5) (awayL nd L) M T wr from by
        have h0 : LostAt p ml mm mt me w1.heap.size nilV w1 q (.slice a5 q c5) (leftL nd L (ids.take ids.length)) M T wr := HO.out
        rwa [List.take_length, leftL_done HPe1.out] at h0)
      clear HO HQ hlt hi HIk HZ0
      obtain ⟨w3, rfl⟩ : ∃ x : World, x = wr := ⟨_, rfl⟩
      obtain ⟨a3, rfl⟩ : ∃ x, x = a5 := ⟨_, rfl⟩
      obtain ⟨d3, rfl⟩ : ∃ x, x = c5 := ⟨_, rfl⟩
      obtain ⟨q1, rfl⟩ : ∃ x, x = q := ⟨_, rfl⟩
      obtain ⟨sg3, hR3⟩ := HO3.out.out
      have HR3 := Lib.hid hR3
      have h13 := hR3.turn.size
      have h01 := HB1.out.size
      have HQl := Lib.hid (show q1 ≤ 256 by have := HQ1.out; have := hereL_le nd L; omega)
      clear hR3
      go_wp2_with fail
      refine (mine_any HSo.out HNo.out p ml mm mt me (awayL nd L) M T w3 HO3.out.ties hl1).mono ?_
      rintro e w4 ⟨a4, d4, P, rfl, hp, ho, hb⟩
      have HPe2 := Lib.hid hp
      have hpl : P.length ≤ 256 := by rw [hp.length_eq]; exact hl1
      have HO4 := Lib.hid ho
      have h34 := hb.size
      have HB4 := Lib.hid hb
      have HO5 := Lib.hid (HO3.out.below hb)
      have HIk := Lib.hid (fun (x : Idd × Idd) (h : x ∈ M) => (H.out.okM x h).1.in')
      obtain ⟨sg5, hR5⟩ := HO5.out.out
      have HS5 := Lib.hid (OutSt.start (S := TS ml mm mt) hR5.len hR5.row)
      clear hp ho hb hR5
      go_wp2_with fail
      go_loopw [5, 44] (fun t5 t44 wr => LostS p ml mm mt me w1.heap.size (.slice a3 q1 d3) w4 q1 (fun ds => (hereM nd ds).length) P (fun i wr q v => LostAt p ml mm mt me w1.heap.size (.slice a3 q1 d3) w4 q v (awayL nd L) (leftM nd M (P.take i)) T wr) t5 t44 wr) (fun _ t _ => P.length - (intOf t).toNat)
      case atStart => exact ⟨0, a3, d3, q1, rfl, Nat.zero_le _, rfl, rfl, ⟨sg5, HS5.out⟩, by rw [List.take_zero, leftM_nil]; exact HO5.out.ties, HLT.out.1, HLT.out.2.1, HLT.out.2.2.1, HLT.out.2.2.2⟩
      case round =>
        obtain ⟨i, a5, c5, q, rfl, hi, rfl, hq, hO⟩ := hrel
        have HQ := Lib.hid (show q = q1 + (hereM nd (P.take i)).length from hq)
        clear hq
        have HO := Lib.hid hO
        clear hO
        by_cases hlt : i < P.length
        · obtain ⟨g, rfl, hgb, hgl, hgc, hgm, hcell⟩ := row_tie HO4.out hlt
          have HT := Lib.hid (take_succ hlt)
          have HIn := Lib.hid (HPe2.out.mem_iff.1 (List.getElem_mem hlt))
          generalize P[i] = x at *
          obtain ⟨sg0, hsg⟩ := HO.out.out
          have HL := Lib.hid (show ∀ j v, (twoC x.1 x.2)[j]? = some v → wr.cell? ⟨g, i * 6 + j, none⟩ = some v from fun j v h => (World.cell?_of_block (hsg.old (b := g) hgl (fun e => by have := (HR3.out.row.lt _ e).2; omega) (fun t => HNT.out g (.inr (by omega)) t))).trans (hcell j v h))
          clear hcell hsg
          by_cases hnd : x.2.node = nd
          · have hdd : ((x.2.node : Int) == (nd : Int)) = true := by rw [hnd]; exact beq_self_eq_true _
            have HND := Lib.hid hnd
            clear hnd
            go_upto_region 15 with (refine wpList_load_at rfl 62 (.tmp 46) rfl g (i * 6) rfl (twoC x.1 x.2) _ HL.out Try.underlying62 rfl sizeTie ?_)
            have HX := Lib.hid (heap_new wr (.cells (twoC x.1 x.2) 62))
            have HA2 := Lib.hid ((Below.refl wr.heap.size wr).alloc (Nat.le_refl _) (.cells (twoC x.1 x.2) 62))
            have HO2 := Lib.hid (HO.out.below HA2.out)
            have hs2 : wr.heap.size < (wr.alloc (.cells (twoC x.1 x.2) 62)).heap.size := by simp
            have HAp := Lib.hid (show ∀ sg, OutSt w1.heap.size (TS ml mm mt) (.slice a3 q1 d3) w4 sg q (.slice a5 q c5) wr → ((.slice a5 q c5) : Value).ownBlock ≠ some wr.heap.size from fun sg h => h.apart (.inr (Nat.le_refl _)))
            have hpb : p < wr.heap.size := HO.out.ties.lt
            have HNb := Lib.hid (show ∀ m, (m = ml ∨ m = mm ∨ m = mt) → wr.heap.size ≠ m from fun m h e => by
              rcases h with rfl | rfl | rfl
              · have := HO.out.ties.links.lt; omega
              · have := HO.out.ties.mine.lt; omega
              · have := HO.out.ties.theirs.lt; omega)
            have HSo1 := Lib.hid HO.out.out
            clear HL HO HA2 hdd
            generalize wr.alloc (.cells (twoC x.1 x.2) 62) = w2 at *
            generalize wr.heap.size = b at *
            have HS0 : Hid (∀ w' : World, w'.heap[b]? = w2.heap[b]? → w'.cell? ⟨b, 0, none⟩ = some (.int .i64 x.1.node) ∧ w'.cell? ⟨b, 1, none⟩ = some (.int .u32 x.1.boot) ∧ w'.cell? ⟨b, 2, none⟩ = some (.int .u64 x.1.n) ∧ w'.cell? ⟨b, 3, none⟩ = some (.int .i64 x.2.node) ∧ w'.cell? ⟨b, 4, none⟩ = some (.int .u32 x.2.boot) ∧ w'.cell? ⟨b, 5, none⟩ = some (.int .u64 x.2.n)) := Lib.hid (fun w' h1 => by
              have e1 := h1.trans HX.out
              refine ⟨?_, ?_, ?_, ?_, ?_, ?_⟩ <;> simp [World.cell?, e1])
            obtain ⟨x0, x1, x2, x3, x4, x5⟩ := HS0.out w2 rfl
            obtain ⟨-, -, -, -, zm, -⟩ := HO2.out.ties.six
            obtain ⟨wd, hrun, hmd, htd⟩ := (HO2.out.ties.mine.block (w' := w2.drew) rfl).del Try.underlying50 (HIk.out x HIn.out) 0
            have HMd := Lib.hid hmd
            have HTd := Lib.hid htd
            clear hmd htd
            have hS2 : wd.cell? ⟨b, 0, none⟩ = some (.int .i64 x.1.node) ∧ wd.cell? ⟨b, 1, none⟩ = some (.int .u32 x.1.boot) ∧ wd.cell? ⟨b, 2, none⟩ = some (.int .u64 x.1.n) ∧ wd.cell? ⟨b, 3, none⟩ = some (.int .i64 x.2.node) ∧ wd.cell? ⟨b, 4, none⟩ = some (.int .u32 x.2.boot) ∧ wd.cell? ⟨b, 5, none⟩ = some (.int .u64 x.2.n) ∧ wd.cell? ⟨p, 4, none⟩ = some (.map (some mm)) := by
              have hb1 := turned_block HTd.out b hs2 (HNb.out _ (.inr (.inl rfl)))
              have hb2 := turned_block HTd.out p HO2.out.ties.lt (fun e => HO2.out.ties.not_map (.inr (.inl e)))
              obtain ⟨y0, y1, y2, y3, y4, y5⟩ := HS0.out wd hb1
              exact ⟨y0, y1, y2, y3, y4, y5, (World.cell?_of_block hb2).trans zm⟩
            go_region_held3 (fun w' => w'.cell? ⟨b, 0, none⟩ = some (.int .i64 x.1.node) ∧ w'.cell? ⟨b, 1, none⟩ = some (.int .u32 x.1.boot) ∧ w'.cell? ⟨b, 2, none⟩ = some (.int .u64 x.1.n) ∧ w'.cell? ⟨b, 3, none⟩ = some (.int .i64 x.2.node) ∧ w'.cell? ⟨b, 4, none⟩ = some (.int .u32 x.2.boot) ∧ w'.cell? ⟨b, 5, none⟩ = some (.int .u64 x.2.n) ∧ w'.cell? ⟨p, 4, none⟩ = some (.map (some mm))) (first
                | (with_reducible exact hS2)
                | go_keep) (fail)
            rename_i hHeld
            have HOd := Lib.hid ((HO2.out.below (Below.refl _ w2).drew).delM (M' := leftM nd M (P.take (i + 1))) (by rw [HT.out, ← leftM_step HKm.out HIn.out HND.out, ← without_pv]; exact HMd.out) HTd.out (fun y hy => H.out.okM y (leftM_sub hy)))
            have hsd : b < wd.heap.size := Nat.lt_of_lt_of_le hs2 HTd.out.grown.size
            have HXd := Lib.hid ((turned_block HTd.out b hs2 (HNb.out _ (.inr (.inl rfl)))).trans HX.out)
            clear hHeld hS2 hrun zm x0 x1 x2 x3 x4 x5 HS0 HMd HTd HX HO2 HNb
            go_upto_region 16 with fail
            have HSt : Hid (∀ w' : World, w'.heap[b]? = wd.heap[b]? → w'.heap[p]? = wd.heap[p]? → w'.cell? ⟨b, 0, none⟩ = some (.int .i64 x.1.node) ∧ w'.cell? ⟨b, 1, none⟩ = some (.int .u32 x.1.boot) ∧ w'.cell? ⟨b, 2, none⟩ = some (.int .u64 x.1.n) ∧ w'.cell? ⟨b, 3, none⟩ = some (.int .i64 x.2.node) ∧ w'.cell? ⟨b, 4, none⟩ = some (.int .u32 x.2.boot) ∧ w'.cell? ⟨b, 5, none⟩ = some (.int .u64 x.2.n) ∧ w'.cell? ⟨p, 0, none⟩ = some (.int .i64 me.node) ∧ w'.cell? ⟨p, 1, none⟩ = some (.int .u32 me.boot) ∧ w'.cell? ⟨p, 2, none⟩ = some (.int .u64 me.n)) := Lib.hid (fun w' h1 h2 => by
              have e1 := h1.trans HXd.out
              have e2 := h2.trans HOd.out.ties.cells
              refine ⟨?_, ?_, ?_, ?_, ?_, ?_, ?_, ?_, ?_⟩ <;> simp [World.cell?, e1, e2])
            obtain ⟨sgs, hsgs⟩ := HOd.out.out
            have HO2 := Lib.hid hsgs
            clear hsgs
            have hpd : p < wd.heap.size := HOd.out.ties.lt
            have HNp := Lib.hid (HO2.out.apart (b := p) (.inl HOd.out.lp))
            have HNb := Lib.hid (show ((.slice a5 q c5) : Value).ownBlock ≠ some b from by
              obtain ⟨sg, h⟩ := HSo1.out
              exact HAp.out sg h)
            have hS := HSt.out wd.drew rfl rfl
            have HWc := Lib.hid (Below.refl wd.heap.size wd).drew
            have HRo := Lib.hid (fun o => (HO2.out.row.alloc o).drew)
            have HN1 := Lib.hid (show q + 1 ≤ maxLen by have := HQ.out; have := HQl.out; have := hereM_le nd (P.take i); rw [List.length_take] at this; unfold maxLen; omega)
            have HN2 := Lib.hid (show (q + 1) * 208 ≤ 140737488355328 by have := HQ.out; have := HQl.out; have := hereM_le nd (P.take i); rw [List.length_take] at this; omega)
            have HB5 := Lib.hid (show w1.heap.size ≤ wd.heap.size from by have := HO2.out.turn.size; omega)
            obtain ⟨x0, x1, x2, x3, x4, x5, x6, x7, x8⟩ := HSt.out wd rfl rfl
            go_region_held3 (fun w' => w'.cell? ⟨b, 0, none⟩ = some (.int .i64 x.1.node) ∧ w'.cell? ⟨b, 1, none⟩ = some (.int .u32 x.1.boot) ∧ w'.cell? ⟨b, 2, none⟩ = some (.int .u64 x.1.n) ∧ w'.cell? ⟨b, 3, none⟩ = some (.int .i64 x.2.node) ∧ w'.cell? ⟨b, 4, none⟩ = some (.int .u32 x.2.boot) ∧ w'.cell? ⟨b, 5, none⟩ = some (.int .u64 x.2.n) ∧ w'.cell? ⟨p, 0, none⟩ = some (.int .i64 me.node) ∧ w'.cell? ⟨p, 1, none⟩ = some (.int .u32 me.boot) ∧ w'.cell? ⟨p, 2, none⟩ = some (.int .u64 me.n)) (first
                | (with_reducible exact hS)
                | (with_reducible exact hSa _)
                | (with_reducible exact hS9)
                | go_keep)
              (first
                | (go_at_call 19; refine (atom_any _ _).mono ?_; rintro e wc ⟨rfl, hbc⟩; have hH := HWc.out.trans (hbc.mono HWc.out.size); clear HWc; have HWc := Lib.hid hH; clear hH hbc; have hS := HSt.out _ (HWc.out.block b hsd) (HWc.out.block p hpd); have hSa := fun o => HSt.out (wc.alloc o) ((Below.heap_alloc wc o b (Nat.lt_of_lt_of_le hsd HWc.out.size)).trans (HWc.out.block b hsd)) ((Below.heap_alloc wc o p (Nat.lt_of_lt_of_le hpd HWc.out.size)).trans (HWc.out.block p hpd)); have HO2c := Lib.hid (HO2.out.below HWc.out); clear HRo; have HRo := Lib.hid (fun o => HO2c.out.row.alloc o); have HXb := Lib.hid (fun o => (Below.refl wc.heap.size wc).alloc (Nat.le_refl _) o); have HSr := Lib.hid (fun w => src_new Try.underlying38 (sgC 7 x.2 me x.1 3 0 nocon 0) rfl 47 (sg_one _ _ _ _ _ _ _ _) w); have HN3 := Lib.hid (show ∀ o, w1.heap.size ≤ (wc.alloc o).heap.size from fun o => by have := HWc.out.size; have := HB5.out; simp; omega))
                | (refine step_app (by rfl) (.tmp 59) (.tmp 70) 38 38 (by rfl) w1.heap.size 47 i0 (.agg sgZ) 20 208 Try.underlying38 X1.out X2.out X3.out X4.out rfl (by decide) (.slice a5 q c5) q _ (by rfl) (HRo.out _) _ 1 (sgC 7 x.2 me x.1 3 0 nocon 0).toList (by rfl) (HSr.out _) HN1.out HN2.out (HN3.out _) ?_; intro a4 c4 wz ho4 hg4 hl4; have HOz := Lib.hid ((HOd.out.below HWc.out).app HO2c.out (HXb.out _) ho4 hg4 hl4); have hS9 := HSt.out wz ((hg4.block b (by have := HWc.out.size; simp; omega) (fun e => HNb.out e.symm)).trans ((Below.heap_alloc wc _ b (by have := HWc.out.size; omega)).trans (HWc.out.block b hsd))) ((hg4.block p (by have := HWc.out.size; simp; omega) (fun e => HNp.out e.symm)).trans ((Below.heap_alloc wc _ p (by have := HWc.out.size; omega)).trans (HWc.out.block p hpd))); clear ho4 hg4 hl4))
            rename_i hHeld
            have HQ2 := Lib.hid (show q + 1 = q1 + (hereM nd (P.take (i + 1))).length from by rw [HT.out, hereM_in HND.out, HQ.out]; omega)
            clear hHeld hS9 hS hSa x0 x1 x2 x3 x4 x5 x6 x7 x8 HSr HRo HNp HNb HSt HXd HO2 HO2c HT HOd HWc HXb HQ HN1 HN2 HN3
            go_wp2_with fail
            go_roundw
            case rel => exact ⟨i + 1, a4, c4, q + 1, by go_num, hlt, rfl, HQ2.out, HOz.out⟩
            case measure => simp [intOf]; omega
          · have hdd : ((x.2.node : Int) == (nd : Int)) = false := by rw [beq_eq_false_iff_ne]; omega
            have hnd := Lib.hid hnd
            have HO2 := Lib.hid (show LostAt p ml mm mt me w1.heap.size (.slice a3 q1 d3) w4 q (.slice a5 q c5) (awayL nd L) (leftM nd M (P.take (i + 1))) T _ from by rw [HT.out, leftM_skip hnd.out]; exact HO.out.below ((Below.refl wr.heap.size wr).alloc (Nat.le_refl _) (.cells (twoC x.1 x.2) 62)))
            clear HO
            have HQ2 := Lib.hid (show q = q1 + (hereM nd (P.take (i + 1))).length from by rw [HT.out, hereM_out hnd.out]; exact HQ.out)
            clear HQ
            go_wp2_with (refine wpList_load_at rfl 62 (.tmp 46) rfl g (i * 6) rfl (twoC x.1 x.2) _ HL.out Try.underlying62 rfl sizeTie ?_)
            go_roundw
            case rel => exact ⟨i + 1, a5, c5, q, by go_num, hlt, rfl, HQ2.out, HO2.out⟩
            case measure => simp [intOf]; omega
        · obtain rfl : i = P.length := by omega
          have HQ2 := Lib.hid (show q = (hereL nd L).length + (hereM nd M).length from by have := HQ.out; rw [List.take_length, hereM_perm HPe2.out, HQ1.out] at this; exact this)
          have HO6 := Lib.hid (show LostAt p ml mm mt me w1.heap.size (.slice a3 q1 d3) w4 q (.slice a5 q c5) (awayL nd L) (awayM nd M) T wr from by
            have h0 : LostAt p ml mm mt me w1.heap.size (.slice a3 q1 d3) w4 q (.slice a5 q c5) (awayL nd L) (leftM nd M (P.take P.length)) T wr := HO.out
            rwa [List.take_length, leftM_done HPe2.out] at h0)
          clear HO HQ hlt hi HIk HS5 HO5
          obtain ⟨w5, rfl⟩ : ∃ x : World, x = wr := ⟨_, rfl⟩
          obtain ⟨a6, rfl⟩ : ∃ x, x = a5 := ⟨_, rfl⟩
          obtain ⟨d6, rfl⟩ : ∃ x, x = c5 := ⟨_, rfl⟩
          obtain ⟨q5, rfl⟩ : ∃ x, x = q := ⟨_, rfl⟩
          obtain ⟨sg6, hR5⟩ := HO6.out.out
          have HR5 := Lib.hid hR5
          have h45 := hR5.turn.size
          clear hR5
          go_wp2_with fail
          refine (theirs_any HSo.out HNo.out p ml mm mt me (awayL nd L) (awayM nd M) T w5 HO6.out.ties hl2).mono ?_
          rintro e w6 ⟨a7, d7, Q, rfl, hp, ho, hb⟩
          have HPe3 := Lib.hid hp
          have hql : Q.length ≤ 256 := by rw [hp.length_eq]; exact hl2
          have HO7 := Lib.hid ho
          have h56 := hb.size
          have HB6 := Lib.hid hb
          have HO8 := Lib.hid (HO6.out.below hb)
          have HIk := Lib.hid (fun (x : Idd × Idd) (h : x ∈ T) => (H.out.okT x h).1.in')
          obtain ⟨sg8, hR8⟩ := HO8.out.out
          have HS8 := Lib.hid (OutSt.start (S := TS ml mm mt) hR8.len hR8.row)
          have HR8 := Lib.hid hR8
          clear hp ho hb hR8
          go_wp2_with fail
          go_loopw [76] (fun t76 wr => ∃ i : Nat, t76 = .int .i64 i ∧ i ≤ Q.length ∧ LostAt p ml mm mt me w1.heap.size (.slice a6 q5 d6) w6 q5 (.slice a6 q5 d6) (awayL nd L) (awayM nd M) (leftM nd T (Q.take i)) wr) (fun t _ => Q.length - (intOf t).toNat)
          case atStart => exact ⟨0, rfl, Nat.zero_le _, ⟨sg8, HS8.out⟩, by rw [List.take_zero, leftM_nil]; exact HO8.out.ties, HLT.out.1, HLT.out.2.1, HLT.out.2.2.1, HLT.out.2.2.2⟩
          case round =>
            obtain ⟨i, rfl, hi, hO⟩ := hrel
            have HO := Lib.hid hO
            clear hO
            by_cases hlt : i < Q.length
            · obtain ⟨g, rfl, hgb, hgl, hgc, hgm, hcell⟩ := row_tie HO7.out hlt
              have HT := Lib.hid (take_succ hlt)
              have HIn := Lib.hid (HPe3.out.mem_iff.1 (List.getElem_mem hlt))
              generalize Q[i] = x at *
              obtain ⟨sg0, hsg⟩ := HO.out.out
              have HL := Lib.hid (show ∀ j v, (twoC x.1 x.2)[j]? = some v → wr.cell? ⟨g, i * 6 + j, none⟩ = some v from fun j v h => (World.cell?_of_block (hsg.old (b := g) hgl (fun e => by have := (HR5.out.row.lt _ e).2; omega) (fun t => HNT.out g (.inr (by omega)) t))).trans (hcell j v h))
              clear hcell hsg
              by_cases hnd : x.2.node = nd
              · have hdd : ((x.2.node : Int) == (nd : Int)) = true := by rw [hnd]; exact beq_self_eq_true _
                have HND := Lib.hid hnd
                clear hnd
                go_upto_region 22 with (refine wpList_load_at rfl 62 (.tmp 78) rfl g (i * 6) rfl (twoC x.1 x.2) _ HL.out Try.underlying62 rfl sizeTie ?_)
                have HX := Lib.hid (heap_new wr (.cells (twoC x.1 x.2) 62))
                have HA2 := Lib.hid ((Below.refl wr.heap.size wr).alloc (Nat.le_refl _) (.cells (twoC x.1 x.2) 62))
                have HO2 := Lib.hid (HO.out.below HA2.out)
                have hs2 : wr.heap.size < (wr.alloc (.cells (twoC x.1 x.2) 62)).heap.size := by simp
                have HAp := Lib.hid (show ∀ sg, OutSt w1.heap.size (TS ml mm mt) (.slice a6 q5 d6) w6 sg q5 (.slice a6 q5 d6) wr → ((.slice a6 q5 d6) : Value).ownBlock ≠ some wr.heap.size from fun sg h => h.apart (.inr (Nat.le_refl _)))
                have hpb : p < wr.heap.size := HO.out.ties.lt
                have HNb := Lib.hid (show ∀ m, (m = ml ∨ m = mm ∨ m = mt) → wr.heap.size ≠ m from fun m h e => by
                  rcases h with rfl | rfl | rfl
                  · have := HO.out.ties.links.lt; omega
                  · have := HO.out.ties.mine.lt; omega
                  · have := HO.out.ties.theirs.lt; omega)
                have HSo1 := Lib.hid HO.out.out
                clear HL HO HA2 hdd
                generalize wr.alloc (.cells (twoC x.1 x.2) 62) = w2 at *
                generalize wr.heap.size = b at *
                have HS0 : Hid (∀ w' : World, w'.heap[b]? = w2.heap[b]? → w'.cell? ⟨b, 0, none⟩ = some (.int .i64 x.1.node) ∧ w'.cell? ⟨b, 1, none⟩ = some (.int .u32 x.1.boot) ∧ w'.cell? ⟨b, 2, none⟩ = some (.int .u64 x.1.n) ∧ w'.cell? ⟨b, 3, none⟩ = some (.int .i64 x.2.node) ∧ w'.cell? ⟨b, 4, none⟩ = some (.int .u32 x.2.boot) ∧ w'.cell? ⟨b, 5, none⟩ = some (.int .u64 x.2.n)) := Lib.hid (fun w' h1 => by
                  have e1 := h1.trans HX.out
                  refine ⟨?_, ?_, ?_, ?_, ?_, ?_⟩ <;> simp [World.cell?, e1])
                obtain ⟨x0, x1, x2, x3, x4, x5⟩ := HS0.out w2 rfl
                obtain ⟨-, -, -, -, -, zm⟩ := HO2.out.ties.six
                obtain ⟨wd, hrun, hmd, htd⟩ := (HO2.out.ties.theirs.block (w' := w2.drew) rfl).del Try.underlying50 (HIk.out x HIn.out) 0
                have HMd := Lib.hid hmd
                have HTd := Lib.hid htd
                clear hmd htd
                have hS2 : wd.cell? ⟨b, 0, none⟩ = some (.int .i64 x.1.node) ∧ wd.cell? ⟨b, 1, none⟩ = some (.int .u32 x.1.boot) ∧ wd.cell? ⟨b, 2, none⟩ = some (.int .u64 x.1.n) ∧ wd.cell? ⟨b, 3, none⟩ = some (.int .i64 x.2.node) ∧ wd.cell? ⟨b, 4, none⟩ = some (.int .u32 x.2.boot) ∧ wd.cell? ⟨b, 5, none⟩ = some (.int .u64 x.2.n) ∧ wd.cell? ⟨p, 5, none⟩ = some (.map (some mt)) := by
                  have hb1 := turned_block HTd.out b hs2 (HNb.out _ (.inr (.inr rfl)))
                  have hb2 := turned_block HTd.out p HO2.out.ties.lt (fun e => HO2.out.ties.not_map (.inr (.inr e)))
                  obtain ⟨y0, y1, y2, y3, y4, y5⟩ := HS0.out wd hb1
                  exact ⟨y0, y1, y2, y3, y4, y5, (World.cell?_of_block hb2).trans zm⟩
                go_region_held3 (fun w' => w'.cell? ⟨b, 0, none⟩ = some (.int .i64 x.1.node) ∧ w'.cell? ⟨b, 1, none⟩ = some (.int .u32 x.1.boot) ∧ w'.cell? ⟨b, 2, none⟩ = some (.int .u64 x.1.n) ∧ w'.cell? ⟨b, 3, none⟩ = some (.int .i64 x.2.node) ∧ w'.cell? ⟨b, 4, none⟩ = some (.int .u32 x.2.boot) ∧ w'.cell? ⟨b, 5, none⟩ = some (.int .u64 x.2.n) ∧ w'.cell? ⟨p, 5, none⟩ = some (.map (some mt))) (first
                    | (with_reducible exact hS2)
                    | go_keep) (fail)
                rename_i hHeld
                have HOd := Lib.hid ((HO2.out.below (Below.refl _ w2).drew).delT (T' := leftM nd T (Q.take (i + 1))) (by rw [HT.out, ← leftM_step HKt.out HIn.out HND.out, ← without_pv]; exact HMd.out) HTd.out (fun y hy => H.out.okT y (leftM_sub hy)))
                have hsd : b < wd.heap.size := Nat.lt_of_lt_of_le hs2 HTd.out.grown.size
                have HXd := Lib.hid ((turned_block HTd.out b hs2 (HNb.out _ (.inr (.inr rfl)))).trans HX.out)
                clear hHeld hS2 hrun zm x0 x1 x2 x3 x4 x5 HS0 HMd HTd HX HO2 HNb
                go_wp2_with fail
                go_roundw
                case rel => exact ⟨i + 1, by go_num, hlt, HOd.out⟩
                case measure => simp [intOf]; omega
              · have hdd : ((x.2.node : Int) == (nd : Int)) = false := by rw [beq_eq_false_iff_ne]; omega
                have hnd := Lib.hid hnd
                have HO2 := Lib.hid (show LostAt p ml mm mt me w1.heap.size (.slice a6 q5 d6) w6 q5 (.slice a6 q5 d6) (awayL nd L) (awayM nd M) (leftM nd T (Q.take (i + 1))) _ from by rw [HT.out, leftM_skip hnd.out]; exact HO.out.below ((Below.refl wr.heap.size wr).alloc (Nat.le_refl _) (.cells (twoC x.1 x.2) 62)))
                clear HO
                go_wp2_with (refine wpList_load_at rfl 62 (.tmp 78) rfl g (i * 6) rfl (twoC x.1 x.2) _ HL.out Try.underlying62 rfl sizeTie ?_)
                go_roundw
                case rel => exact ⟨i + 1, by go_num, hlt, HO2.out⟩
                case measure => simp [intOf]; omega
            · obtain rfl : i = Q.length := by omega
              have HO9 := Lib.hid (show LostAt p ml mm mt me w1.heap.size (.slice a6 q5 d6) w6 q5 (.slice a6 q5 d6) (awayL nd L) (awayM nd M) (awayM nd T) wr from by
                have h0 : LostAt p ml mm mt me w1.heap.size (.slice a6 q5 d6) w6 q5 (.slice a6 q5 d6) (awayL nd L) (awayM nd M) (leftM nd T (Q.take Q.length)) wr := HO.out
                rwa [List.take_length, leftM_done HPe3.out] at h0)
              clear HO hlt hi HIk HS8 HO8
              obtain ⟨sg9, hR9⟩ := HO9.out.out
              have HTn : Hid (Turn (TS ml mm mt) w wr) := Lib.hid (((((((Turn.of_below (S := TS ml mm mt) HB1.out).andThen HR3.out.turn (fun i e => e.elim (fun e => by simp [Value.ownBlock] at e) .inl)).trans (Turn.of_below HB4.out)).andThen HR5.out.turn (fun i e => e.elim (fun e => .inr (by have := (HR3.out.row.lt i e).1; omega)) .inl)).trans (Turn.of_below HB6.out)).andThen hR9.turn (fun i e => e.elim (fun e => .inr (by have := (HR8.out.row.lt i e).1; omega)) .inl)))
              clear hR9
              go_wp2_with fail
              go_ret
              exact ⟨a6, d6, q5, rfl, HQ2.out, HO9.out.ties, HTn.out⟩
end Go.Proofs.Ytkpeelhanmekdaa

