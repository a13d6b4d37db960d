/- ties.Unlink, Unwatch, Unwatched, walked. -/
import Derived.Test.YtkpeelhanmekdaaC4
namespace Go.Proofs.Ytkpeelhanmekdaa
set_option linter.unusedVariables false
set_option linter.unusedSimpArgs false
set_option linter.constructorNameAsVariable false
open Go.Shelf Go.RowKit Go.Lib Go.Proofs
set_option maxRecDepth 100000

open Classical in
noncomputable def dropL (L : List Idd) (x : Idd) : List Idd := L.filter fun y => decide (y ≠ x)
open Classical in
noncomputable def dropM (M : List (Idd × Idd)) (x : Idd) : List (Idd × Idd) := M.filter fun q => decide (q.1 ≠ x)
theorem without_lv (L : List Idd) (x : Idd) : without (L.map lv) x = (dropL L x).map lv := by
  unfold without dropL
  rw [List.filter_map]
  rfl
theorem without_pv (M : List (Idd × Idd)) (x : Idd) : without (M.map pv) x = (dropM M x).map pv := by
  unfold without dropM
  rw [List.filter_map]
  rfl
open Classical in
/-- 0 where it is there -/
noncomputable def codeL (L : List Idd) (x : Idd) : Int := if x ∈ L then 0 else 222
theorem codeL_in {L : List Idd} {x : Idd} (h : x ∈ L) : codeL L x = 0 := by
  unfold codeL
  rw [if_pos h]
theorem codeL_out {L : List Idd} {x : Idd} (h : x ∉ L) : codeL L x = 222 := by
  unfold codeL
  rw [if_neg h]
open Classical in
theorem dropL_out {L : List Idd} {x : Idd} (h : x ∉ L) : dropL L x = L := by
  unfold dropL
  rw [List.filter_eq_self]
  intro y hy
  exact decide_eq_true (fun e => h (e ▸ hy))
open Classical in
theorem dropM_out {M : List (Idd × Idd)} {x : Idd} (h : x ∉ M.map (·.1)) : dropM M x = M := by
  unfold dropM
  rw [List.filter_eq_self]
  intro q hq
  exact decide_eq_true (fun e => h (e ▸ List.mem_map_of_mem (f := (·.1)) hq))
theorem dropL_sub {L : List Idd} {x y : Idd} (h : y ∈ dropL L x) : y ∈ L := (List.mem_filter.1 h).1
theorem dropM_sub {M : List (Idd × Idd)} {x : Idd} {q : Idd × Idd} (h : q ∈ dropM M x) : q ∈ M := (List.mem_filter.1 h).1
theorem not_map_b {w : World} {b m : Nat} {v : Value} {l : List (Idd × Value)} (hm : mapAt w m l) (h : w.cell? ⟨b, 0, none⟩ = some v) : b ≠ m := fun e => by
  obtain ⟨es, c, hm⟩ := mapAt_obj hm
  subst e
  simp [World.cell?, hm] at h
set_option maxHeartbeats 4000000 in
theorem unlink_any (x me : Idd) (hx : IdOk x) (p ml mm mt : Nat) (L : List Idd) (M T : List (Idd × Idd)) (w : World) (h : TiesAt w p ml mm mt me L M T) :
    Calls Try.prog 10 #[.pointer (some ⟨p, 0, none⟩), idV x] w (fun e w' => e = .returned (.int .i64 (codeL L x)) ∧ TiesAt w' p ml mm mt me (dropL L x) M T ∧ Turn (TS ml mm mt) w w') := by
  have H := Lib.hid h
  have HX := Lib.hid hx
  obtain ⟨x0, x1, x2⟩ := box_id x w
  have HB0 := Lib.hid ((Below.refl w.heap.size w).alloc (Nat.le_refl _) (.cells (idC x) 31))
  have hlt0 : w.heap.size < (w.alloc (.cells (idC x) 31)).heap.size := by simp
  obtain ⟨y, hf, hy⟩ := look_link L x
  have HF := Lib.hid hf
  have HY := Lib.hid hy
  clear h hx hf hy
  go_enter Try.func10, Try.ntmps10
  go_upto_region 3 with fail
  have H0 := Lib.hid (H.out.below HB0.out)
  generalize w.alloc (.cells (idC x) 31) = w0 at *
  generalize hbs : w.heap.size = b at *
  obtain ⟨-, -, -, c3, -, -⟩ := H0.out.six
  have hlk := (H0.out.links.block (w' := w0.drew) rfl).look Try.underlying49 (zeroB _) HX.out.in' HF.out
  go_region_held3 (fun w' => w'.cell? ⟨b, 0, none⟩ = some (.int .i64 x.node) ∧ w'.cell? ⟨b, 1, none⟩ = some (.int .u32 x.boot) ∧ w'.cell? ⟨b, 2, none⟩ = some (.int .u64 x.n) ∧ w'.cell? ⟨p, 3, none⟩ = some (.map (some ml)) ∧ (Instr.lookup 49 (.map (some ml)) (idV x) false).run Try.prog w' = .ok (.bool y) w') (go_keep) (fail)
  clear hlk
  have H1 := Lib.hid (H0.out.keep (w' := w0.drew) (fun _ _ => rfl))
  have HB1 := Lib.hid (HB0.out.drew)
  have z0 : w0.drew.cell? ⟨b, 0, none⟩ = some (.int .i64 x.node) := x0
  have z1 : w0.drew.cell? ⟨b, 1, none⟩ = some (.int .u32 x.boot) := x1
  have z2 : w0.drew.cell? ⟨b, 2, none⟩ = some (.int .u64 x.n) := x2
  have hb1 : b < w0.drew.heap.size := hlt0
  clear x0 x1 x2 c3 H0 HB0 hlt0
  generalize w0.drew = w1 at *
  obtain ⟨-, -, -, c3, -, -⟩ := H1.out.six
  cases y with
  | false =>
    have hn : x ∉ L := fun hm => by
      have := HY.out.2 hm
      cases this
    have HN := Lib.hid hn
    clear hn
    go_wp2_with fail
    go_ret
    rw [codeL_out HN.out, dropL_out HN.out]
    exact ⟨rfl, H1.out, Turn.of_below (hbs ▸ HB1.out)⟩
  | true =>
    have HI := Lib.hid (HY.out.1 rfl)
    go_upto_region 5 with fail
    obtain ⟨wd, hrun, hmd, htd⟩ := (H1.out.links.block (w' := w1.drew) rfl).del Try.underlying49 HX.out.in' 0
    have HMd := Lib.hid hmd
    have HTd := Lib.hid htd
    clear hmd htd
    have hS2 := turned_four (not_map_b H1.out.links z0) (fun e => H1.out.not_map (.inl e)) hb1 H1.out.lt HTd.out z0 z1 z2 c3
    go_region_held3 (fun w' => w'.cell? ⟨b, 0, none⟩ = some (.int .i64 x.node) ∧ w'.cell? ⟨b, 1, none⟩ = some (.int .u32 x.boot) ∧ w'.cell? ⟨b, 2, none⟩ = some (.int .u64 x.n) ∧ w'.cell? ⟨p, 3, none⟩ = some (.map (some ml))) (first
        | (with_reducible exact hS2)
        | go_keep) (fail)
    clear hS2 z0 z1 z2 c3 hrun
    have Hd := Lib.hid ((H1.out.keep (w' := w1.drew) (fun _ _ => rfl)).setL (L' := dropL L x) (by rw [← without_lv]; exact HMd.out) HTd.out (fun y hy => H1.out.okL y (dropL_sub hy)))
    have HTr : Hid (Turn (TS ml mm mt) w wd) := Lib.hid ((Turn.of_below (hbs ▸ HB1.out.drew)).trans (turned_turn HTd.out (.inl rfl)))
    go_wp2_with fail
    go_ret
    rw [codeL_in HI.out]
    exact ⟨rfl, Hd.out, HTr.out⟩
end Go.Proofs.Ytkpeelhanmekdaa
