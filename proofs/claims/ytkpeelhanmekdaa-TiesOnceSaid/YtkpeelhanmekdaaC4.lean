/- ties.Link, Unlink, walked. -/
import Derived.Test.YtkpeelhanmekdaaC3
namespace Go.Proofs.Ytkpeelhanmekdaa
set_option linter.unusedVariables false
set_option linter.unusedSimpArgs false
set_option linter.constructorNameAsVariable false
open Go.Shelf Go.RowKit Go.Lib Go.Proofs
set_option maxRecDepth 100000

theorem mapAt.look {w : World} {m : Nat} {l : List (Idd × Value)} {t e : TypeId} (h : mapAt w m l) (ht : Try.prog.underlying t = some (.map 31 e)) {z : Value} (hz : (zeroValue e).run Try.prog w = .ok z w) {k : Idd} (hk : IdIn k) {v : Value} {y : Bool} (hf : Found l k z v y) : (Instr.lookup t (.map (some m)) (idV k) false).run Try.prog w = .ok v w := by
  obtain ⟨D, ho, hi⟩ := h
  obtain ⟨h1, h2⟩ := found_at hi hk hf
  obtain ⟨v', ps, hrun, hv⟩ := ho.lookup lawI ht hz (zd := .held z) (zp := []) rfl (keyOfI hk)
  rw [h1] at hv
  cases hv
  exact hrun
theorem mapAt.look_ok {w : World} {m : Nat} {l : List (Idd × Value)} {t e : TypeId} (h : mapAt w m l) (ht : Try.prog.underlying t = some (.map 31 e)) {z : Value} (hz : (zeroValue e).run Try.prog w = .ok z w) {k : Idd} (hk : IdIn k) {v : Value} {y : Bool} (hf : Found l k z v y) : (Instr.lookup t (.map (some m)) (idV k) true).run Try.prog w = .ok (.tuple #[v, .bool y]) w := by
  obtain ⟨D, ho, hi⟩ := h
  obtain ⟨h1, h2⟩ := found_at hi hk hf
  obtain ⟨v', ps, hrun, hv⟩ := ho.look_ok lawI ht hz (zd := .held z) (zp := []) rfl (keyOfI hk)
  rw [h1] at hv
  cases hv
  rw [h2] at hrun
  exact hrun
theorem mapAt.set {w : World} {m : Nat} {l : List (Idd × Value)} {t e : TypeId} (h : mapAt w m l) (ht : Try.prog.underlying t = some (.map 31 e)) (hn : l.length < maxLen) {k : Idd} (hk : IdIn k) (val : Value) (hnew : k ∉ l.map (·.1)) :
    ∃ w', (Instr.mapUpdate t (.map (some m)) (idV k) val).run Try.prog w = .ok () w' ∧ mapAt w' m (l ++ [(k, val)]) ∧ w.mapTurned w' m := by
  obtain ⟨D, ho, hi⟩ := h
  obtain ⟨w', hrun, r1, r2⟩ := ho.store lawI ht hn (keyOfI hk) (d := .held val) (ps := []) rfl
  exact ⟨w', hrun, ⟨_, by rw [List.length_append]; exact r1, hi.put hk hnew val⟩, r2⟩
theorem mapAt.del {w : World} {m : Nat} {l : List (Idd × Value)} {t e : TypeId} (h : mapAt w m l) (ht : Try.prog.underlying t = some (.map 31 e)) {k : Idd} (hk : IdIn k) (ty : TypeId) :
    ∃ w', (Builtin.delete_ #[t, 31] ty #[.map (some m), idV k]).run Try.prog w = .ok (.tuple #[]) w' ∧ mapAt w' m (without l k) ∧ w.mapTurned w' m := by
  obtain ⟨D, ho, hi⟩ := h
  obtain ⟨w', hrun, r1, r2⟩ := ho.drop lawI ht (keyOfI hk) ty
  refine ⟨w', hrun, ⟨_, ?_, hi.del hk⟩, r2⟩
  have := own_tight r1
  rwa [(hi.del hk).size] at this
/-- a box of an id -/
theorem box_id (x : Idd) (w : World) : (w.alloc (.cells (idC x) 31)).cell? ⟨w.heap.size, 0, none⟩ = some (.int .i64 x.node) ∧ (w.alloc (.cells (idC x) 31)).cell? ⟨w.heap.size, 1, none⟩ = some (.int .u32 x.boot) ∧ (w.alloc (.cells (idC x) 31)).cell? ⟨w.heap.size, 2, none⟩ = some (.int .u64 x.n) := G.id_of (heap_new w _)
theorem mem_lv {L : List Idd} {x : Idd} : x ∈ (L.map lv).map (·.1) ↔ x ∈ L := by simp
theorem turned_four {w w' : World} {b p m : Nat} {v0 v1 v2 v3 : Value} (hb : b ≠ m) (hp : p ≠ m) (lb : b < w.heap.size) (lp : p < w.heap.size) (h : w.drew.mapTurned w' m) (y0 : w.cell? ⟨b, 0, none⟩ = some v0) (y1 : w.cell? ⟨b, 1, none⟩ = some v1) (y2 : w.cell? ⟨b, 2, none⟩ = some v2) {o : Nat} (c3 : w.cell? ⟨p, o, none⟩ = some v3) :
    w'.cell? ⟨b, 0, none⟩ = some v0 ∧ w'.cell? ⟨b, 1, none⟩ = some v1 ∧ w'.cell? ⟨b, 2, none⟩ = some v2 ∧ w'.cell? ⟨p, o, none⟩ = some v3 := by
  have e1 : w'.heap[b]? = w.heap[b]? := turned_block h b lb hb
  have e2 : w'.heap[p]? = w.heap[p]? := turned_block h p lp hp
  exact ⟨(World.cell?_of_block e1).trans y0, (World.cell?_of_block e1).trans y1, (World.cell?_of_block e1).trans y2, (World.cell?_of_block e2).trans c3⟩
set_option maxHeartbeats 4000000 in
theorem link_any (x me : Idd) (hx : IdOk x) (p ml mm mt : Nat) (L : List Idd) (M T : List (Idd × Idd)) (w : World) (h : TiesAt w p ml mm mt me L M T) (hl : L.length + M.length + T.length < 256) (hne : x.node ≠ me.node) (hnew : x ∉ L) :
    Calls Try.prog 7 #[.pointer (some ⟨p, 0, none⟩), idV x] w (fun e w' => e = .returned (.int .i64 0) ∧ TiesAt w' p ml mm mt me (L ++ [x]) M T ∧ Turn (TS ml mm mt) w w') := by
  have H := Lib.hid h
  have HX := Lib.hid hx
  have HN := Lib.hid hnew
  have HLn := Lib.hid hl
  have hne' : ¬ (x.node : Int) = me.node := by omega
  obtain ⟨x0, x1, x2⟩ := box_id x w
  have HB0 := Lib.hid ((Below.refl w.heap.size w).alloc (Nat.le_refl _) (.cells (idC x) 31))
  have hlt0 : w.heap.size < (w.alloc (.cells (idC x) 31)).heap.size := by simp
  clear h hx hnew hl
  go_enter Try.func7, Try.ntmps7
  go_upto_region 3 with fail
  have H0 := Lib.hid (H.out.below HB0.out)
  generalize w.alloc (.cells (idC x) 31) = w0 at *
  generalize hbs : w.heap.size = b at *
  have HSt : Hid (∀ w', Below w0.heap.size w0 w' → w'.cell? ⟨b, 0, none⟩ = some (.int .i64 x.node) ∧ w'.cell? ⟨b, 1, none⟩ = some (.int .u32 x.boot) ∧ w'.cell? ⟨b, 2, none⟩ = some (.int .u64 x.n) ∧ w'.cell? ⟨p, 0, none⟩ = some (.int .i64 me.node) ∧ w'.cell? ⟨p, 1, none⟩ = some (.int .u32 me.boot) ∧ w'.cell? ⟨p, 2, none⟩ = some (.int .u64 me.n)) := Lib.hid (fun w' hb => by
    obtain ⟨c0, c1, c2, _⟩ := (H0.out.below hb).six
    exact ⟨(hb.cell (p := ⟨b, 0, none⟩) hlt0).trans x0, (hb.cell (p := ⟨b, 1, none⟩) hlt0).trans x1, (hb.cell (p := ⟨b, 2, none⟩) hlt0).trans x2, c0, c1, c2⟩)
  have HM := Lib.hid (may_one x HX.out w0.heap.size (w0.alloc (.cells (idC x) 31)).drew (heap_new w0 _))
  have HBa := Lib.hid ((Below.refl w0.heap.size w0).alloc (Nat.le_refl _) (.cells (idC x) 31))
  obtain ⟨y0, y1, y2, c0, c1, c2⟩ := HSt.out w0 (Below.refl _ _)
  clear x0 x1 x2
  go_region_held3 (fun w' => w'.cell? ⟨b, 0, none⟩ = some (.int .i64 x.node) ∧ w'.cell? ⟨b, 1, none⟩ = some (.int .u32 x.boot) ∧ w'.cell? ⟨b, 2, none⟩ = some (.int .u64 x.n) ∧ w'.cell? ⟨p, 0, none⟩ = some (.int .i64 me.node) ∧ w'.cell? ⟨p, 1, none⟩ = some (.int .u32 me.boot) ∧ w'.cell? ⟨p, 2, none⟩ = some (.int .u64 me.n)) (first
      | (with_reducible exact hS)
      | go_keep)
    (first
      | (go_at_call 15; refine HM.out.mono ?_; rintro e wa ⟨rfl, hba⟩; have HC := Lib.hid (HBa.out.drew.trans (hba.mono (by simp))); clear hba; have hS := HSt.out _ HC.out))
  have Ha := Lib.hid (H0.out.below HC.out)
  have HBA := Lib.hid (HB0.out.trans (HC.out.mono (by have := HB0.out.size; omega)))
  have hba1 : b < wa.heap.size := by have := HC.out.size; omega
  obtain ⟨y0, y1, y2, -, -, -⟩ := hS
  obtain ⟨-, -, -, c3, -, -⟩ := Ha.out.six
  have HF : Hid (Found (L.map lv) x (.bool false) (.bool false) false) := Lib.hid (.inr ⟨rfl, rfl, fun h => HN.out (mem_lv.1 h)⟩)
  have hlk := (Ha.out.links.block (w' := wa.drew) rfl).look Try.underlying49 (zeroB _) HX.out.in' HF.out
  rename_i hHeld
  clear hHeld HC HSt HM HBa H0 HF
  go_upto_region 5 with fail
  go_region_held3 (fun w' => w'.cell? ⟨b, 0, none⟩ = some (.int .i64 x.node) ∧ w'.cell? ⟨b, 1, none⟩ = some (.int .u32 x.boot) ∧ w'.cell? ⟨b, 2, none⟩ = some (.int .u64 x.n) ∧ w'.cell? ⟨p, 3, none⟩ = some (.map (some ml)) ∧ (Instr.lookup 49 (.map (some ml)) (idV x) false).run Try.prog w' = .ok (.bool false) w') (go_keep) (fail)
  clear hlk
  have Hb := Lib.hid (Ha.out.keep (w' := wa.drew) (fun _ _ => rfl))
  have HBB := Lib.hid (HBA.out.drew)
  have z0 : wa.drew.cell? ⟨b, 0, none⟩ = some (.int .i64 x.node) := y0
  have z1 : wa.drew.cell? ⟨b, 1, none⟩ = some (.int .u32 x.boot) := y1
  have z2 : wa.drew.cell? ⟨b, 2, none⟩ = some (.int .u64 x.n) := y2
  have hbb : b < wa.drew.heap.size := hba1
  clear y0 y1 y2 c3 Ha HBA hba1
  generalize wa.drew = wb at *
  go_wp2_with fail
  refine (room_any p ml mm mt me L M T wb Hb.out HLn.out).mono ?_
  rintro e wc ⟨rfl, hbc⟩
  have Hc := Lib.hid (Hb.out.below hbc)
  have HBC := Lib.hid (HBB.out.trans (hbc.mono (by have := HBB.out.size; omega)))
  have y0 := (hbc.cell (p := ⟨b, 0, none⟩) hbb).trans z0
  have y1 := (hbc.cell (p := ⟨b, 1, none⟩) hbb).trans z1
  have y2 := (hbc.cell (p := ⟨b, 2, none⟩) hbb).trans z2
  obtain ⟨-, -, -, c3, -, -⟩ := Hc.out.six
  have hbcc : b < wc.heap.size := by have := hbc.size; omega
  clear hbc z0 z1 z2 Hb HBB
  go_upto_region 9 with fail
  have HL1 := Lib.hid (show (L.map lv).length < maxLen by have := HLn.out; unfold maxLen; rw [List.length_map]; omega)
  have HN1 := Lib.hid (show x ∉ (L.map lv).map (·.1) from fun h => HN.out (mem_lv.1 h))
  obtain ⟨wd, hrun, hmd, htd⟩ := (Hc.out.links.block (w' := wc.drew) rfl).set Try.underlying49 HL1.out HX.out.in' (.bool true) HN1.out
  have HMd := Lib.hid hmd
  have HTd := Lib.hid htd
  clear hmd htd
  have hbm : Hid (b ≠ ml) := Lib.hid (fun e => by
    obtain ⟨es, c, hm⟩ := mapAt_obj Hc.out.links
    subst e
    simp [World.cell?, hm] at y0)
  have hpm : Hid (p ≠ ml) := Lib.hid (fun e => Hc.out.not_map (.inl e))
  have hpl : Hid (p < wc.heap.size) := Lib.hid Hc.out.lt
  have hS2 := turned_four hbm.out hpm.out hbcc hpl.out HTd.out y0 y1 y2 c3
  go_region_held3 (fun w' => w'.cell? ⟨b, 0, none⟩ = some (.int .i64 x.node) ∧ w'.cell? ⟨b, 1, none⟩ = some (.int .u32 x.boot) ∧ w'.cell? ⟨b, 2, none⟩ = some (.int .u64 x.n) ∧ w'.cell? ⟨p, 3, none⟩ = some (.map (some ml))) (first
      | (with_reducible exact hS2)
      | go_keep) (fail)
  have Hd := Lib.hid ((Hc.out.keep (w' := wc.drew) (fun _ _ => rfl)).setL (L' := L ++ [x]) (by rw [List.map_append]; exact HMd.out) HTd.out (fun y hy => by
    rcases List.mem_append.1 hy with hy | hy
    · exact Hc.out.okL y hy
    · rw [List.mem_singleton] at hy
      exact hy ▸ HX.out))
  have HTr : Hid (Turn (TS ml mm mt) w wd) := Lib.hid ((Turn.of_below (hbs ▸ HBC.out.drew)).trans (turned_turn HTd.out (.inl rfl)))
  clear hS2 y0 y1 y2 c3
  go_wp2_with fail
  go_ret
  exact ⟨rfl, Hd.out, HTr.out⟩
end Go.Proofs.Ytkpeelhanmekdaa
