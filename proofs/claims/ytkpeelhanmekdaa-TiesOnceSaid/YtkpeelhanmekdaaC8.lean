/- ties.Unwatched, walked. -/
import Derived.Test.YtkpeelhanmekdaaC7
namespace Go.Proofs.Ytkpeelhanmekdaa
set_option linter.unusedVariables false
set_option linter.unusedSimpArgs false
set_option linter.constructorNameAsVariable false
open Go.Shelf Go.RowKit Go.Lib Go.Proofs
set_option maxRecDepth 100000

set_option maxHeartbeats 4000000 in
theorem unwatched_any (x other me : Idd) (hx : IdOk x) (p ml mm mt : Nat) (L : List Idd) (M T : List (Idd × Idd)) (w : World) (h : TiesAt w p ml mm mt me L M T) (hwho : ∀ q ∈ T, q.1 = x → q.2 = other) :
    Calls Try.prog 12 #[.pointer (some ⟨p, 0, none⟩), idV x, idV other] w (fun e w' => e = .returned (.int .i64 (codeL (T.map (·.1)) x)) ∧ TiesAt w' p ml mm mt me L M (dropM T x) ∧ Turn (TS ml mm mt) w w') := by
  have H := Lib.hid h
  have HX := Lib.hid hx
  have HB0 := Lib.hid (((Below.refl w.heap.size w).alloc (Nat.le_refl _) (.cells (idC x) 31)).alloc (by simp) (.cells (idC other) 31))
  have H2 := Lib.hid (box_two x other w)
  obtain ⟨u, y, hf, hy1, hy2⟩ := look_pair T x h.okT
  have HF := Lib.hid hf
  have HY1 := Lib.hid (fun e => hwho _ (hy1 e) rfl)
  have HY3 := Lib.hid hy1
  have HY2 := Lib.hid hy2
  clear h hx hf hy1 hy2 hwho
  go_enter Try.func12, Try.ntmps12
  go_upto_region 3 with fail
  have H0 := Lib.hid (H.out.below HB0.out)
  generalize (w.alloc (.cells (idC x) 31)).alloc (.cells (idC other) 31) = w0 at *
  generalize hbs : w.heap.size = b at *
  obtain ⟨hlt, ⟨x0, x1, x2⟩, ho⟩ := H2.out
  have HO := Lib.hid ho
  have hltb : b < w0.heap.size := by omega
  clear H2 ho
  have HSt : Hid (∀ w', Below w0.heap.size w0 w' → w'.cell? ⟨b, 0, none⟩ = some (.int .i64 x.node) ∧ w'.cell? ⟨b, 1, none⟩ = some (.int .u32 x.boot) ∧ w'.cell? ⟨b, 2, none⟩ = some (.int .u64 x.n) ∧ w'.cell? ⟨p, 5, none⟩ = some (.map (some mt)) ∧ (Instr.lookup 50 (.map (some mt)) (idV x) true).run Try.prog w' = .ok (.tuple #[idV u, .bool y]) w') := Lib.hid (fun w' hb => by
    have h' := H0.out.below hb
    obtain ⟨-, -, -, -, -, c5⟩ := h'.six
    exact ⟨(hb.cell (p := ⟨b, 0, none⟩) hltb).trans x0, (hb.cell (p := ⟨b, 1, none⟩) hltb).trans x1, (hb.cell (p := ⟨b, 2, none⟩) hltb).trans x2, c5, h'.theirs.look_ok Try.underlying50 (zeroId _) HX.out.in' HF.out⟩)
  have HC : Hid (Below w0.heap.size w0 w0.drew) := Lib.hid ((Below.refl _ _).drew)
  have hS := HSt.out _ HC.out
  have hSa := fun o => HSt.out _ ((Below.refl _ w0).alloc (Nat.le_refl _) o).drew
  obtain ⟨y0, y1, y2, c5, hlk⟩ := HSt.out w0 (Below.refl _ _)
  clear x0 x1 x2
  go_region_held3 (fun w' => w'.cell? ⟨b, 0, none⟩ = some (.int .i64 x.node) ∧ w'.cell? ⟨b, 1, none⟩ = some (.int .u32 x.boot) ∧ w'.cell? ⟨b, 2, none⟩ = some (.int .u64 x.n) ∧ w'.cell? ⟨p, 5, none⟩ = some (.map (some mt)) ∧ (Instr.lookup 50 (.map (some mt)) (idV x) true).run Try.prog w' = .ok (.tuple #[idV u, .bool y]) w') (first
      | (with_reducible exact hS)
      | (with_reducible exact hSa _)
      | go_keep) (fail)
  all_goals
    rename_i hHeld
    clear hHeld
    clear hS hSa y0 y1 y2 c5 hlk
    have HB1 := Lib.hid (((Below.refl _ w0).alloc (Nat.le_refl _) (.cells (idC u) 31)).drew)
    have HU := Lib.hid (show G.IdAt (w0.alloc (.cells (idC u) 31)).drew w0.heap.size u from G.id_of (heap_new w0 _))
    have HO1 := Lib.hid (HO.out.block (HB1.out.block (b + 1) hlt))
    have hs1 : w0.heap.size < (w0.alloc (.cells (idC u) 31)).drew.heap.size := by simp
    generalize (w0.alloc (.cells (idC u) 31)).drew = w1 at *
    have H1 := Lib.hid (H0.out.below HB1.out)
    have HBw := Lib.hid (HB0.out.trans (HB1.out.mono (by omega)))
    have hlt1 : b + 1 < w1.heap.size := by omega
    obtain ⟨y0, y1, y2, c5, -⟩ := HSt.out w1 HB1.out
    obtain ⟨u0, u1, u2⟩ := HU.out
    obtain ⟨o0, o1, o2⟩ := HO1.out
    clear HC HO HSt HB1
    cases y with
    | false =>
      have hn : x ∉ T.map (·.1) := HY2.out rfl
      have HN := Lib.hid hn
      clear hn y0 y1 y2 c5
      go_wp2_with fail
      go_ret
      rw [codeL_out HN.out, dropM_out HN.out]
      exact ⟨rfl, H.out.below (hbs ▸ HBw.out), Turn.of_below (hbs ▸ HBw.out)⟩
    | true =>
      have hin : x ∈ T.map (·.1) := List.mem_map_of_mem (f := (·.1)) (HY3.out rfl)
      have HN := Lib.hid hin
      have hue : u = other := HY1.out rfl
      subst hue
      clear hin
      go_upto_region 6 with fail
      obtain ⟨wd, hrun, hmd, htd⟩ := (H1.out.theirs.block (w' := w1.drew) rfl).del Try.underlying50 HX.out.in' 0
      have HMd := Lib.hid hmd
      have HTd := Lib.hid htd
      clear hmd htd
      have hS2 := turned_four (not_map_b H1.out.theirs y0) (fun e => H1.out.not_map (.inr (.inr e))) (by omega) H1.out.lt HTd.out y0 y1 y2 c5
      go_region_held3 (fun w' => w'.cell? ⟨b, 0, none⟩ = some (.int .i64 x.node) ∧ w'.cell? ⟨b, 1, none⟩ = some (.int .u32 x.boot) ∧ w'.cell? ⟨b, 2, none⟩ = some (.int .u64 x.n) ∧ w'.cell? ⟨p, 5, none⟩ = some (.map (some mt))) (first
          | (with_reducible exact hS2)
          | go_keep) (fail)
      clear hS2 y0 y1 y2 c5 hrun u0 u1 u2 o0 o1 o2
      have Hd := Lib.hid ((H1.out.keep (w' := w1.drew) (fun _ _ => rfl)).setT (T' := dropM T x) (by rw [← without_pv]; exact HMd.out) HTd.out (fun y hy => H1.out.okT y (dropM_sub hy)))
      have HTr : Hid (Turn (TS ml mm mt) w wd) := Lib.hid ((Turn.of_below (hbs ▸ HBw.out.drew)).trans (turned_turn HTd.out (.inr (.inr rfl))))
      go_wp2_with fail
      go_ret
      rw [codeL_in HN.out]
      exact ⟨rfl, Hd.out, HTr.out⟩
end Go.Proofs.Ytkpeelhanmekdaa
