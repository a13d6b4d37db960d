/- ties.Unwatch, Unwatched, walked. -/
import Derived.Test.YtkpeelhanmekdaaC6
namespace Go.Proofs.Ytkpeelhanmekdaa
set_option linter.unusedVariables false
set_option linter.unusedSimpArgs false
set_option linter.constructorNameAsVariable false
open Go.Shelf Go.RowKit Go.Lib Go.Proofs
set_option maxRecDepth 100000

theorem look_pair (M : List (Idd × Idd)) (x : Idd) (hok : ∀ q ∈ M, IdOk q.1 ∧ IdOk q.2) : ∃ (u : Idd) (y : Bool), Found (M.map pv) x (idV id0) (idV u) y ∧ (y = true → (x, u) ∈ M) ∧ (y = false → x ∉ M.map (·.1)) := by
  by_cases h : x ∈ M.map (·.1)
  · obtain ⟨q, hq, rfl⟩ := List.mem_map.1 h
    exact ⟨q.2, true, .inl ⟨rfl, List.mem_map_of_mem (f := pv) hq⟩, fun _ => hq, by simp⟩
  · exact ⟨id0, false, .inr ⟨rfl, rfl, new_key h⟩, by simp, fun _ => h⟩
/-- no id -/
abbrev zC : Array Value := #[.int .i64 0, .int .u32 0, .int .u64 0]
theorem box_zero (x : Idd) (w : World) : w.heap.size + 1 < ((w.alloc (.cells (idC x) 31)).alloc (.cells zC 31)).heap.size ∧ G.IdAt ((w.alloc (.cells (idC x) 31)).alloc (.cells zC 31)) w.heap.size x ∧ ((w.alloc (.cells (idC x) 31)).alloc (.cells zC 31)).heap[w.heap.size + 1]? = some (.cells zC 31 (0, 0)) := by
  refine ⟨by simp, G.id_of (t := 31) ?_, ?_⟩
  · rw [((Below.refl (w.alloc (.cells (idC x) 31)).heap.size (w.alloc (.cells (idC x) 31))).alloc (Nat.le_refl _) (.cells zC 31)).block w.heap.size (by simp)]
    exact heap_new w _
  · have := heap_new (w.alloc (.cells (idC x) 31)) (.cells zC 31)
    simpa using this
theorem setRow_below {B g : Nat} {w : World} {cs : Array Value} (h : B ≤ g) : Below B w (w.setRow g cs) :=
  ⟨rfl, rfl, rfl, by simp [World.setRow], fun k hk => by simp [World.setRow, Array.getElem?_modify, show ¬ g = k by omega]⟩
theorem setRow_at {w : World} {g : Nat} {old cs : Array Value} {t : TypeId} (h : w.heap[g]? = some (.cells old t (0, 0))) : (w.setRow g cs).heap[g]? = some (.cells cs t (0, 0)) := by
  simp [World.setRow, Array.getElem?_modify, h]
theorem setRow_other {w : World} {g k : Nat} (cs : Array Value) (h : k ≠ g) : (w.setRow g cs).heap[k]? = w.heap[k]? := by
  simp [World.setRow, Array.getElem?_modify, show ¬ g = k from fun e => h e.symm]
theorem zero_at {w : World} {b : Nat} (h : w.heap[b]? = some (.cells zC 31 (0, 0))) : w.cell? ⟨b, 0, none⟩ = some (.int .i64 0) ∧ w.cell? ⟨b, 1, none⟩ = some (.int .u32 0) ∧ w.cell? ⟨b, 2, none⟩ = some (.int .u64 0) := by
  refine ⟨?_, ?_, ?_⟩ <;> simp [World.cell?, h]
theorem TiesAt.setRow {w : World} {p ml mm mt g : Nat} {me : Idd} {L : List Idd} {M T : List (Idd × Idd)} (h : TiesAt w p ml mm mt me L M T) (cs : Array Value) (h1 : p ≠ g) (h2 : ml ≠ g) (h3 : mm ≠ g) (h4 : mt ≠ g) : TiesAt (w.setRow g cs) p ml mm mt me L M T :=
  ⟨(setRow_other cs h1).trans h.cells, h.links.block (setRow_other cs h2), h.mine.block (setRow_other cs h3), h.theirs.block (setRow_other cs h4), h.ne1, h.ne2, h.ne3, h.okL, h.okM, h.okT, h.okme⟩
theorem _root_.Go.Proofs.Ytkpeelhanmekdaa.Turn.setRow {S : Nat → Prop} {w w' : World} {g : Nat} {cs : Array Value} (h : Turn S w w') (hg : w.heap.size ≤ g) : Turn S w (w'.setRow g cs) :=
  ⟨h.os, h.tape, h.output, by have := h.size; simpa [World.setRow] using this, fun i hi hn => (setRow_other cs (by omega)).trans (h.block i hi hn)⟩
set_option maxHeartbeats 4000000 in
theorem unwatch_any (x me : Idd) (hx : IdOk x) (p ml mm mt : Nat) (L : List Idd) (M T : List (Idd × Idd)) (w : World) (h : TiesAt w p ml mm mt me L M T) :
    Calls Try.prog 11 #[.pointer (some ⟨p, 0, none⟩), idV x] w (fun e w' => (∃ v, e = .returned (.tuple #[v, .int .i64 (codeL (M.map (·.1)) x)])) ∧ TiesAt w' p ml mm mt me L (dropM M x) T ∧ Turn (TS ml mm mt) w w') := by
  have H := Lib.hid h
  have HX := Lib.hid hx
  have HB0 := Lib.hid (((Below.refl w.heap.size w).alloc (Nat.le_refl _) (.cells (idC x) 31)).alloc (by simp) (.cells zC 31))
  have H2 := Lib.hid (box_zero x w)
  obtain ⟨u, y, hf, hy1, hy2⟩ := look_pair M x h.okM
  have HF := Lib.hid hf
  have HY1 := Lib.hid hy1
  have HY2 := Lib.hid hy2
  have hi31 : (Try.prog.info? 31).map (·.size) = some 3 := by kernel_rfl
  have HI := Lib.hid hi31
  clear h hx hf hy1 hy2 hi31
  go_enter Try.func11, Try.ntmps11
  go_upto_region 3 with fail
  have H0 := Lib.hid (H.out.below HB0.out)
  generalize (w.alloc (.cells (idC x) 31)).alloc (.cells zC 31) = w0 at *
  generalize hbs : w.heap.size = b at *
  obtain ⟨hlt, ⟨x0, x1, x2⟩, hz⟩ := H2.out
  have HZ := Lib.hid hz
  have hltb : b < w0.heap.size := by omega
  clear H2 hz
  have HSt : Hid (∀ w', Below w0.heap.size w0 w' → w'.cell? ⟨b, 0, none⟩ = some (.int .i64 x.node) ∧ w'.cell? ⟨b, 1, none⟩ = some (.int .u32 x.boot) ∧ w'.cell? ⟨b, 2, none⟩ = some (.int .u64 x.n) ∧ w'.cell? ⟨p, 4, none⟩ = some (.map (some mm)) ∧ (Instr.lookup 50 (.map (some mm)) (idV x) true).run Try.prog w' = .ok (.tuple #[idV u, .bool y]) w') := Lib.hid (fun w' hb => by
    have h' := H0.out.below hb
    obtain ⟨-, -, -, -, c4, -⟩ := h'.six
    exact ⟨(hb.cell (p := ⟨b, 0, none⟩) hltb).trans x0, (hb.cell (p := ⟨b, 1, none⟩) hltb).trans x1, (hb.cell (p := ⟨b, 2, none⟩) hltb).trans x2, c4, h'.mine.look_ok Try.underlying50 (zeroId _) HX.out.in' HF.out⟩)
  have HC : Hid (Below w0.heap.size w0 w0.drew) := Lib.hid ((Below.refl _ _).drew)
  have hS := HSt.out _ HC.out
  have hSa := fun o => HSt.out _ ((Below.refl _ w0).alloc (Nat.le_refl _) o).drew
  obtain ⟨y0, y1, y2, c4, hlk⟩ := HSt.out w0 (Below.refl _ _)
  clear x0 x1 x2
  go_region_held3 (fun w' => w'.cell? ⟨b, 0, none⟩ = some (.int .i64 x.node) ∧ w'.cell? ⟨b, 1, none⟩ = some (.int .u32 x.boot) ∧ w'.cell? ⟨b, 2, none⟩ = some (.int .u64 x.n) ∧ w'.cell? ⟨p, 4, none⟩ = some (.map (some mm)) ∧ (Instr.lookup 50 (.map (some mm)) (idV x) true).run Try.prog w' = .ok (.tuple #[idV u, .bool y]) w') (first
      | (with_reducible exact hS)
      | (with_reducible exact hSa _)
      | go_keep) (fail)
  all_goals
    rename_i hHeld
    clear hHeld
    clear hS hSa y0 y1 y2 c4 hlk
    have HB1 := Lib.hid (((Below.refl _ w0).alloc (Nat.le_refl _) (.cells (idC u) 31)).drew)
    have HU := Lib.hid (show G.IdAt (w0.alloc (.cells (idC u) 31)).drew w0.heap.size u from G.id_of (heap_new w0 _))
    have HZ1 := Lib.hid ((HB1.out.block (b + 1) hlt).trans HZ.out)
    have hs1 : w0.heap.size < (w0.alloc (.cells (idC u) 31)).drew.heap.size := by simp
    generalize (w0.alloc (.cells (idC u) 31)).drew = w1 at *
    have H1 := Lib.hid (H0.out.below HB1.out)
    have HBw := Lib.hid (HB0.out.trans (HB1.out.mono (by omega)))
    have hlt1 : b + 1 < w1.heap.size := by omega
    obtain ⟨y0, y1, y2, c4, -⟩ := HSt.out w1 HB1.out
    clear HC HZ HSt HB1
    cases y with
    | false =>
      have hn : x ∉ M.map (·.1) := HY2.out rfl
      have HN := Lib.hid hn
      clear hn y0 y1 y2 c4
      go_wp2_with (refine wpList_store_row rfl 31 (.tmp 4) (.tmp 22) rfl (b + 1) zC rfl rfl 31 zC HZ1.out HI.out rfl (by simp [Array.all, Value.oneCell']) ?_)
      have HZ2 := Lib.hid (setRow_at (cs := zC) HZ1.out)
      have HB2 := Lib.hid (HBw.out.trans (setRow_below (w := w1) (cs := zC) (Nat.le_succ b)))
      generalize w1.setRow (b + 1) zC = w2 at *

      obtain ⟨k0, k1, k2⟩ := zero_at HZ2.out
      go_wp2_with fail
      refine bodyPost_ret (v := .tuple #[.agg zC, .int .i64 222]) (by simp [results, Try.results11, go_sem, k0, k1, k2]) rfl ?_
      rw [codeL_out HN.out, dropM_out HN.out]
      exact ⟨⟨_, rfl⟩, H.out.below (hbs ▸ HB2.out), Turn.of_below (hbs ▸ HB2.out)⟩
    | true =>
      have hin : x ∈ M.map (·.1) := List.mem_map_of_mem (f := (·.1)) (HY1.out rfl)
      have HN := Lib.hid hin
      clear hin
      go_upto_region 6 with fail
      obtain ⟨wd, hrun, hmd, htd⟩ := (H1.out.mine.block (w' := w1.drew) rfl).del Try.underlying50 HX.out.in' 0
      have HMd := Lib.hid hmd
      have HTd := Lib.hid htd
      clear hmd htd
      have hS2 := turned_four (not_map_b H1.out.mine y0) (fun e => H1.out.not_map (.inr (.inl e))) (by omega) H1.out.lt HTd.out y0 y1 y2 c4
      go_region_held3 (fun w' => w'.cell? ⟨b, 0, none⟩ = some (.int .i64 x.node) ∧ w'.cell? ⟨b, 1, none⟩ = some (.int .u32 x.boot) ∧ w'.cell? ⟨b, 2, none⟩ = some (.int .u64 x.n) ∧ w'.cell? ⟨p, 4, none⟩ = some (.map (some mm))) (first
          | (with_reducible exact hS2)
          | go_keep) (fail)
      have hub : w0.heap.size ≠ mm := not_map_b H1.out.mine HU.out.1
      have HUd := Lib.hid (HU.out.block (turned_block HTd.out _ hs1 hub))
      have hzm : b + 1 ≠ mm := fun e => by
        obtain ⟨es, c, hm⟩ := mapAt_obj H1.out.mine
        have hz1 := HZ1.out
        rw [e, hm] at hz1
        cases hz1
      have HZd := Lib.hid ((turned_block HTd.out _ hlt1 hzm).trans HZ1.out)
      clear hS2 y0 y1 y2 c4 hrun
      obtain ⟨u0, u1, u2⟩ := HUd.out
      have Hd := Lib.hid ((H1.out.keep (w' := w1.drew) (fun _ _ => rfl)).setM (M' := dropM M x) (by rw [← without_pv]; exact HMd.out) HTd.out (fun y hy => H1.out.okM y (dropM_sub hy)))
      have HTr : Hid (Turn (TS ml mm mt) w wd) := Lib.hid ((Turn.of_below (hbs ▸ HBw.out.drew)).trans (turned_turn HTd.out (.inr (.inl rfl))))
      have hsd : b + 1 < wd.heap.size := (Array.getElem?_eq_some_iff.1 HZd.out).1
      have hpz : p ≠ b + 1 := fun e => by
        have h1 := H.out.lt
        omega
      go_wp2_with (refine wpList_store_row rfl 31 (.tmp 4) (.tmp 28) rfl (b + 1) (idC u) rfl rfl 31 zC HZd.out HI.out rfl (by simp [Array.all, Value.oneCell']) ?_)
      have HZ2 := Lib.hid (setRow_at (cs := idC u) HZd.out)
      obtain ⟨k0, k1, k2⟩ := G.id_of HZ2.out
      have Hf := Lib.hid (Hd.out.setRow (g := b + 1) (idC u) (by have := H.out.lt; omega) (by have := H.out.links.lt; omega) (by have := H.out.mine.lt; omega) (by have := H.out.theirs.lt; omega))
      have HTf : Hid (Turn (TS ml mm mt) w (wd.setRow (b + 1) (idC u))) := Lib.hid (HTr.out.setRow (by omega))
      generalize wd.setRow (b + 1) (idC u) = we at *
      clear u0 u1 u2
      go_wp2_with fail
      refine bodyPost_ret (v := .tuple #[idV u, .int .i64 0]) (by simp [results, Try.results11, go_sem, k0, k1, k2]) rfl ?_
      rw [codeL_in HN.out]
      exact ⟨⟨_, rfl⟩, Hf.out, HTf.out⟩
end Go.Proofs.Ytkpeelhanmekdaa
