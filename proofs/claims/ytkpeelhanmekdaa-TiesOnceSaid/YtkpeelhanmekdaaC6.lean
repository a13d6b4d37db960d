/- ties.put, Watch, Watched, walked. -/
import Derived.Test.YtkpeelhanmekdaaC5
namespace Go.Proofs.Ytkpeelhanmekdaa
set_option linter.unusedVariables false
set_option linter.unusedSimpArgs false
set_option linter.constructorNameAsVariable false
open Go.Shelf Go.RowKit Go.Lib Go.Proofs
set_option maxRecDepth 100000

/-- two boxes of ids -/
theorem box_two (x y : Idd) (w : World) : w.heap.size + 1 < ((w.alloc (.cells (idC x) 31)).alloc (.cells (idC y) 31)).heap.size ∧ G.IdAt ((w.alloc (.cells (idC x) 31)).alloc (.cells (idC y) 31)) w.heap.size x ∧ G.IdAt ((w.alloc (.cells (idC x) 31)).alloc (.cells (idC y) 31)) (w.heap.size + 1) y := G.two_ids x y w
set_option maxHeartbeats 4000000 in
theorem put_any (ref other me : Idd) (hr : IdOk ref) (ho : IdOk other) (p ml mm mt m : Nat) (L : List Idd) (M T : List (Idd × Idd)) (l : List (Idd × Value)) (w : World) (h : TiesAt w p ml mm mt me L M T) (hl : L.length + M.length + T.length < 256) (hm : mapAt w m l) (hll : l.length < 256) (hnew : ref ∉ l.map (·.1)) :
    Calls Try.prog 17 #[.pointer (some ⟨p, 0, none⟩), .map (some m), idV ref, idV other] w (fun e w' => e = .returned (.int .i64 0) ∧ ∃ w1, Below w.heap.size w w1 ∧ w1.mapTurned w' m ∧ mapAt w' m (l ++ [(ref, idV other)])) := by
  have H := Lib.hid h
  have HM := Lib.hid hm
  have HR := Lib.hid hr
  have HLn := Lib.hid hl
  have HN := Lib.hid hnew
  have HB0 := Lib.hid (((Below.refl w.heap.size w).alloc (Nat.le_refl _) (.cells (idC ref) 31)).alloc (by simp) (.cells (idC other) 31))
  have HX := Lib.hid (box_two ref other w)
  have HF : Hid (Found l ref (idV id0) (idV id0) false) := Lib.hid (.inr ⟨rfl, rfl, hnew⟩)
  have HMay : Hid (∀ w0 : World, Calls Try.prog 15 #[.slice (some ⟨w0.heap.size, 0, none⟩) 2 2] (w0.alloc (.cells (twoC ref other) 31)) (RB (w0.alloc (.cells (twoC ref other) 31)) (.bool true))) := Lib.hid (fun w0 => may_two ref other hr ho w0.heap.size _ (heap_new w0 _))
  clear h hm hr ho hl hnew
  go_enter Try.func17, Try.ntmps17
  go_upto_region 1 with fail
  generalize (w.alloc (.cells (idC ref) 31)).alloc (.cells (idC other) 31) = w0 at *
  generalize hbs : w.heap.size = b at *
  obtain ⟨hlt, ⟨x0, x1, x2⟩, ⟨y0, y1, y2⟩⟩ := HX.out
  have X0 := Lib.hid x0
  have X1 := Lib.hid x1
  have X2 := Lib.hid x2
  have Y0 := Lib.hid y0
  have Y1 := Lib.hid y1
  have Y2 := Lib.hid y2
  have hltb : b < w0.heap.size := by omega
  clear HX
  go_wp2_with fail
  refine (HMay.out w0).mono ?_
  rintro e w1 ⟨rfl, hb1⟩
  have HB1 := Lib.hid (((Below.refl w0.heap.size w0).alloc (Nat.le_refl _) (.cells (twoC ref other) 31)).trans (hb1.mono (by simp)))
  have a0 := (HB1.out.cell (p := ⟨b, 0, none⟩) hltb).trans X0.out
  have a1 := (HB1.out.cell (p := ⟨b, 1, none⟩) hltb).trans X1.out
  have a2 := (HB1.out.cell (p := ⟨b, 2, none⟩) hltb).trans X2.out
  have A0 := Lib.hid a0
  have A1 := Lib.hid a1
  have A2 := Lib.hid a2
  have Z0 := Lib.hid ((HB1.out.cell (p := ⟨b + 1, 0, none⟩) hlt).trans Y0.out)
  have Z1 := Lib.hid ((HB1.out.cell (p := ⟨b + 1, 1, none⟩) hlt).trans Y1.out)
  have Z2 := Lib.hid ((HB1.out.cell (p := ⟨b + 1, 2, none⟩) hlt).trans Y2.out)
  have HBB := Lib.hid (HB0.out.trans (HB1.out.mono (by have := HB0.out.size; omega)))
  have HM1 := Lib.hid (HM.out.block (HBB.out.block m (by have := HM.out.lt; omega)))
  have H1 := Lib.hid (H.out.below (hbs ▸ HBB.out))
  have hb1s : b + 1 < w1.heap.size := by have := HB1.out.size; omega
  clear hb1 HMay x0 x1 x2 y0 y1 y2 X0 X1 X2 Y0 Y1 Y2 HB0 HB1 HM H
  go_wp2_with (at_lookup; refine wpList_mlook_ok _ rfl _ _ 50 31 rfl Try.underlying50 (idV id0) (zeroId _) m l rfl HM1.out ref HR.out.in' rfl (idV id0) false HF.out ?_)
  have HBz := Lib.hid ((Below.refl w1.heap.size w1).alloc (Nat.le_refl _) (.cells #[.int .i64 0, .int .u32 0, .int .u64 0] 31))
  refine (room_any p ml mm mt me L M T _ (H1.out.below HBz.out) HLn.out).mono ?_
  rintro e w2 ⟨rfl, hb2⟩
  have HB2 := Lib.hid (HBz.out.trans (hb2.mono (by simp)))
  have hltb1 : b < w1.heap.size := by omega
  have c0 := (HB2.out.cell (p := ⟨b, 0, none⟩) hltb1).trans A0.out
  have c1 := (HB2.out.cell (p := ⟨b, 1, none⟩) hltb1).trans A1.out
  have c2 := (HB2.out.cell (p := ⟨b, 2, none⟩) hltb1).trans A2.out
  have d0 := (HB2.out.cell (p := ⟨b + 1, 0, none⟩) hb1s).trans Z0.out
  have d1 := (HB2.out.cell (p := ⟨b + 1, 1, none⟩) hb1s).trans Z1.out
  have d2 := (HB2.out.cell (p := ⟨b + 1, 2, none⟩) hb1s).trans Z2.out
  have HM2 := Lib.hid (HM1.out.block (HB2.out.block m HM1.out.lt))
  have HBC := Lib.hid (HBB.out.trans (HB2.out.mono (by have := HBB.out.size; omega)))
  have HL1 := Lib.hid (show l.length < maxLen by unfold maxLen; omega)
  clear hb2 a0 a1 a2 A0 A1 A2 Z0 Z1 Z2 HM1 HBB HB2 HBz H1
  go_wp2_with (at_mapUpdate; refine wpList_mset _ rfl _ _ _ 50 31 rfl Try.underlying50 m l rfl HM2.out HL1.out ref HR.out.in' rfl (idV other) rfl HN.out ?_; intro wd hmd htd; have HMd := Lib.hid hmd; have HTd := Lib.hid htd; clear hmd htd c0 c1 c2 d0 d1 d2)
  go_ret
  exact ⟨rfl, w2, hbs ▸ HBC.out, HTd.out, HMd.out⟩
theorem new_key {M : List (Idd × Idd)} {x : Idd} (h : x ∉ M.map (·.1)) : x ∉ (M.map pv).map (·.1) := by
  rw [List.map_map]
  exact h
theorem put_cells {w w1 w' : World} {b p m o : Nat} {v0 v1 v2 u0 u1 u2 q : Value} (hb : b ≠ m) (hb2 : b + 1 ≠ m) (hp : p ≠ m) (lb : b < w.heap.size) (lb2 : b + 1 < w.heap.size) (lp : p < w.heap.size) (h1 : Below w.drew.heap.size w.drew w1) (h : w1.mapTurned w' m)
    (y0 : w.cell? ⟨b, 0, none⟩ = some v0) (y1 : w.cell? ⟨b, 1, none⟩ = some v1) (y2 : w.cell? ⟨b, 2, none⟩ = some v2) (z0 : w.cell? ⟨b + 1, 0, none⟩ = some u0) (z1 : w.cell? ⟨b + 1, 1, none⟩ = some u1) (z2 : w.cell? ⟨b + 1, 2, none⟩ = some u2) (c : w.cell? ⟨p, o, none⟩ = some q) :
    w'.cell? ⟨b, 0, none⟩ = some v0 ∧ w'.cell? ⟨b, 1, none⟩ = some v1 ∧ w'.cell? ⟨b, 2, none⟩ = some v2 ∧ w'.cell? ⟨b + 1, 0, none⟩ = some u0 ∧ w'.cell? ⟨b + 1, 1, none⟩ = some u1 ∧ w'.cell? ⟨b + 1, 2, none⟩ = some u2 ∧ w'.cell? ⟨p, o, none⟩ = some q := by
  have hs : w.heap.size ≤ w1.heap.size := h1.size
  have e : ∀ k, k < w.heap.size → k ≠ m → w'.heap[k]? = w.heap[k]? := fun k hk hn => (turned_block h k (by omega) hn).trans (h1.block k hk)
  have e1 := e b lb hb
  have e2 := e (b + 1) lb2 hb2
  have e3 := e p lp hp
  exact ⟨(World.cell?_of_block e1).trans y0, (World.cell?_of_block e1).trans y1, (World.cell?_of_block e1).trans y2, (World.cell?_of_block e2).trans z0, (World.cell?_of_block e2).trans z1, (World.cell?_of_block e2).trans z2, (World.cell?_of_block e3).trans c⟩
set_option maxHeartbeats 4000000 in
theorem watch_any (ref other me : Idd) (hr : IdOk ref) (ho : IdOk other) (p ml mm mt : Nat) (L : List Idd) (M T : List (Idd × Idd)) (w : World) (h : TiesAt w p ml mm mt me L M T) (hl : L.length + M.length + T.length < 256) (hnew : ref ∉ M.map (·.1)) :
    Calls Try.prog 8 #[.pointer (some ⟨p, 0, none⟩), idV ref, idV other] w (fun e w' => e = .returned (.int .i64 0) ∧ TiesAt w' p ml mm mt me L (M ++ [(ref, other)]) T ∧ Turn (TS ml mm mt) w w') := by
  have H := Lib.hid h
  have HP := Lib.hid (fun w' (h' : TiesAt w' p ml mm mt me L M T) => put_any ref other me hr ho p ml mm mt mm L M T (M.map pv) w' h' hl h'.mine (by rw [List.length_map]; omega) (new_key hnew))
  have HR := Lib.hid (And.intro hr ho)
  have HX := Lib.hid (box_two ref other w)
  have HB0 := Lib.hid (((Below.refl w.heap.size w).alloc (Nat.le_refl _) (.cells (idC ref) 31)).alloc (by simp) (.cells (idC other) 31))
  clear h hr ho hl hnew
  go_enter Try.func8, Try.ntmps8
  go_upto_region 3 with fail
  have H0 := Lib.hid (H.out.below HB0.out)
  generalize (w.alloc (.cells (idC ref) 31)).alloc (.cells (idC other) 31) = w0 at *
  generalize hbs : w.heap.size = b at *
  obtain ⟨hlt, ⟨x0, x1, x2⟩, ⟨y0, y1, y2⟩⟩ := HX.out
  obtain ⟨-, -, -, -, c4, -⟩ := H0.out.six
  have hltb : b < w0.heap.size := by omega
  have hpl : Hid (p < w0.heap.size) := Lib.hid H0.out.lt
  have hnp : Hid (p ≠ mm) := Lib.hid (fun e => H0.out.not_map (.inr <| .inl e))
  have hnb : Hid (b ≠ mm) := Lib.hid (not_map_b H0.out.mine x0)
  have hnb2 : Hid (b + 1 ≠ mm) := Lib.hid (not_map_b H0.out.mine y0)
  have HD := Lib.hid (H0.out.keep (w' := w0.drew) (fun _ _ => rfl))
  clear HX
  go_region_held3 (fun w' => w'.cell? ⟨b, 0, none⟩ = some (.int .i64 ref.node) ∧ w'.cell? ⟨b, 1, none⟩ = some (.int .u32 ref.boot) ∧ w'.cell? ⟨b, 2, none⟩ = some (.int .u64 ref.n) ∧ w'.cell? ⟨b + 1, 0, none⟩ = some (.int .i64 other.node) ∧ w'.cell? ⟨b + 1, 1, none⟩ = some (.int .u32 other.boot) ∧ w'.cell? ⟨b + 1, 2, none⟩ = some (.int .u64 other.n) ∧ w'.cell? ⟨p, 4, none⟩ = some (.map (some mm))) (first
      | (with_reducible exact hS)
      | go_keep)
    (first
      | (go_at_call 17; refine (HP.out _ HD.out).mono ?_; rintro e wd ⟨rfl, wc, hbc, htd, hmd⟩; have HBc := Lib.hid hbc; have HTd := Lib.hid htd; have HMd := Lib.hid hmd; have hS := put_cells hnb.out hnb2.out hnp.out hltb hlt hpl.out hbc htd x0 x1 x2 y0 y1 y2 c4; clear hbc htd hmd))
  have Hc := Lib.hid (HD.out.below HBc.out)
  have Hd := Lib.hid (Hc.out.setM (M' := M ++ [(ref, other)]) (by rw [List.map_append]; exact HMd.out) HTd.out (fun y hy => by
    rcases List.mem_append.1 hy with hy | hy
    · exact Hc.out.okM y hy
    · rw [List.mem_singleton] at hy
      exact hy ▸ HR.out))
  have HTr : Hid (Turn (TS ml mm mt) w wd) := Lib.hid ((Turn.of_below (hbs ▸ (HB0.out.drew.trans (HBc.out.mono (by have := HB0.out.size; simp; omega))))).trans (turned_turn HTd.out (.inr (.inl rfl))))
  clear hS x0 x1 x2 y0 y1 y2 c4
  go_wp2_with fail
  go_ret
  exact ⟨rfl, Hd.out, HTr.out⟩
set_option maxHeartbeats 4000000 in
theorem watched_any (ref other me : Idd) (hr : IdOk ref) (ho : IdOk other) (p ml mm mt : Nat) (L : List Idd) (M T : List (Idd × Idd)) (w : World) (h : TiesAt w p ml mm mt me L M T) (hl : L.length + M.length + T.length < 256) (hnew : ref ∉ T.map (·.1)) :
    Calls Try.prog 9 #[.pointer (some ⟨p, 0, none⟩), idV ref, idV other] w (fun e w' => e = .returned (.int .i64 0) ∧ TiesAt w' p ml mm mt me L M (T ++ [(ref, other)]) ∧ Turn (TS ml mm mt) w w') := by
  have H := Lib.hid h
  have HP := Lib.hid (fun w' (h' : TiesAt w' p ml mm mt me L M T) => put_any ref other me hr ho p ml mm mt mt L M T (T.map pv) w' h' hl h'.theirs (by rw [List.length_map]; omega) (new_key hnew))
  have HR := Lib.hid (And.intro hr ho)
  have HX := Lib.hid (box_two ref other w)
  have HB0 := Lib.hid (((Below.refl w.heap.size w).alloc (Nat.le_refl _) (.cells (idC ref) 31)).alloc (by simp) (.cells (idC other) 31))
  clear h hr ho hl hnew
  go_enter Try.func9, Try.ntmps9
  go_upto_region 3 with fail
  have H0 := Lib.hid (H.out.below HB0.out)
  generalize (w.alloc (.cells (idC ref) 31)).alloc (.cells (idC other) 31) = w0 at *
  generalize hbs : w.heap.size = b at *
  obtain ⟨hlt, ⟨x0, x1, x2⟩, ⟨y0, y1, y2⟩⟩ := HX.out
  obtain ⟨-, -, -, -, -, c5⟩ := H0.out.six
  have hltb : b < w0.heap.size := by omega
  have hpl : Hid (p < w0.heap.size) := Lib.hid H0.out.lt
  have hnp : Hid (p ≠ mt) := Lib.hid (fun e => H0.out.not_map (.inr <| .inr e))
  have hnb : Hid (b ≠ mt) := Lib.hid (not_map_b H0.out.theirs x0)
  have hnb2 : Hid (b + 1 ≠ mt) := Lib.hid (not_map_b H0.out.theirs y0)
  have HD := Lib.hid (H0.out.keep (w' := w0.drew) (fun _ _ => rfl))
  clear HX
  go_region_held3 (fun w' => w'.cell? ⟨b, 0, none⟩ = some (.int .i64 ref.node) ∧ w'.cell? ⟨b, 1, none⟩ = some (.int .u32 ref.boot) ∧ w'.cell? ⟨b, 2, none⟩ = some (.int .u64 ref.n) ∧ w'.cell? ⟨b + 1, 0, none⟩ = some (.int .i64 other.node) ∧ w'.cell? ⟨b + 1, 1, none⟩ = some (.int .u32 other.boot) ∧ w'.cell? ⟨b + 1, 2, none⟩ = some (.int .u64 other.n) ∧ w'.cell? ⟨p, 5, none⟩ = some (.map (some mt))) (first
      | (with_reducible exact hS)
      | go_keep)
    (first
      | (go_at_call 17; refine (HP.out _ HD.out).mono ?_; rintro e wd ⟨rfl, wc, hbc, htd, hmd⟩; have HBc := Lib.hid hbc; have HTd := Lib.hid htd; have HMd := Lib.hid hmd; have hS := put_cells hnb.out hnb2.out hnp.out hltb hlt hpl.out hbc htd x0 x1 x2 y0 y1 y2 c5; clear hbc htd hmd))
  have Hc := Lib.hid (HD.out.below HBc.out)
  have Hd := Lib.hid (Hc.out.setT (T' := T ++ [(ref, other)]) (by rw [List.map_append]; exact HMd.out) HTd.out (fun y hy => by
    rcases List.mem_append.1 hy with hy | hy
    · exact Hc.out.okT y hy
    · rw [List.mem_singleton] at hy
      exact hy ▸ HR.out))
  have HTr : Hid (Turn (TS ml mm mt) w wd) := Lib.hid ((Turn.of_below (hbs ▸ (HB0.out.drew.trans (HBc.out.mono (by have := HB0.out.size; simp; omega))))).trans (turned_turn HTd.out (.inr (.inr rfl))))
  clear hS x0 x1 x2 y0 y1 y2 c5
  go_wp2_with fail
  go_ret
  exact ⟨rfl, Hd.out, HTr.out⟩
end Go.Proofs.Ytkpeelhanmekdaa
