/- A mailbox's Peek. -/
import Derived.Test.YtoipepppdaalpaaN6
namespace Go.Proofs.Ytoipepppdaalpaa
open Go.RowKit
attribute [local go_sem] run_store_complex

theorem peek_keep {w w3 : World} {p g o over : Nat} {v : Value} {n : Int} (h0 : w.cell? ⟨p, 0, none⟩ = some v) (h1 : w.cell? ⟨p, 1, none⟩ = some (.int .i64 over)) (hk : TmIn w g o 1 n) (hb : Below w.heap.size w w3) (hp : p < w.heap.size) (hg : g < w.heap.size) :
    w3.cell? ⟨p, 0, none⟩ = some v ∧ w3.cell? ⟨p, 1, none⟩ = some (.int .i64 over) ∧ TmIn w3 g o 1 n :=
  ⟨(hb.cell (p := ⟨p, 0, none⟩) hp).trans h0, (hb.cell (p := ⟨p, 1, none⟩) hp).trans h1, hk.below hb hg⟩
theorem peek_fz {w : World} {b : Nat} {t : TypeId} {cs : Array Value} (h : w.heap[b]? = some (.cells cs t (0, 0))) : ∀ o, w.frozen? ⟨b, o, none⟩ = false := fun o => by simp [World.frozen?, h]
theorem peek_keep3 {w3 : World} {p g o over b : Nat} {v : Value} {m : Int} (n : Int) (h : w3.cell? ⟨p, 0, none⟩ = some v ∧ w3.cell? ⟨p, 1, none⟩ = some (.int .i64 over) ∧ TmIn w3 g o 1 m) (hp : ¬ b = p) (hg : ¬ b = g) :
    (nine0 w3 b n).cell? ⟨p, 0, none⟩ = some v ∧ (nine0 w3 b n).cell? ⟨p, 1, none⟩ = some (.int .i64 over) ∧ TmIn (nine0 w3 b n) g o 1 m := by
  have hb : ∀ k, ¬ b = k → (nine0 w3 b n).heap[k]? = w3.heap[k]? := fun k hk => by
    have e := fun (W : World) (o : Nat) (u : Value) => Below.heap_setCell W ⟨b, o, none⟩ u k (fun e => hk e.symm)
    dsimp only [nine0]
    rw [e, e, e, e, e, e, e, e, e]
  generalize nine0 w3 b n = F at hb ⊢
  exact ⟨(World.cell?_of_block (w := w3) (hb p hp)).trans h.1, (World.cell?_of_block (w := w3) (hb p hp)).trans h.2.1, h.2.2.block (hb g hg)⟩
set_option maxRecDepth 100000 in
set_option maxHeartbeats 2000000 in
theorem peek_any (B p : Nat) (v : Value) (ms : List Int) (over : Nat) (w : World) (h : BoxAt B w p v ms over) (ho : over < ms.length) (hl : ms.length ≤ 256) (hn : 0 ≤ ms[over] ∧ ms[over] ≤ 1000) :
    Calls Try.prog 12 #[.pointer (some ⟨p, 0, none⟩)] w fun e w' => e = .returned (.tuple #[tm 1 ms[over], .bool true]) ∧ Below w.heap.size w w' := by
  obtain ⟨g, c, rfl, hgl⟩ : ∃ g c, v = .slice (some ⟨g, 0, none⟩) ms.length c ∧ g < w.heap.size := by
    rcases h.owns.2 with ⟨_, h0⟩ | ⟨g, cap, cur, hv, _, hh, _⟩
    · omega
    · exact ⟨g, cap, hv, lt_of_block hh⟩
  have hpl := h.lt
  have hB1 : Below w.heap.size w (w.alloc (.cells (tmC 0 0) 35)) := (Below.refl _ w).alloc (Nat.le_refl _) _
  have HX := Lib.hid (h.below hB1)
  have HR := Lib.hid (heap_new w (.cells (tmC 0 0) 35))
  have hsz : w.heap.size < (w.alloc (.cells (tmC 0 0) 35)).heap.size := by simp
  have HB1 := Lib.hid hB1
  have HK := Lib.hid (TmIn.block (owns_term h.owns ho) (hB1.block g hgl))
  clear hB1 h
  generalize ms[over] = n at *
  obtain ⟨n0, n1⟩ := hn
  go_enter Try.func12, Try.ntmps12
  go_wp2_with fail
  generalize w.alloc (.cells (tmC 0 0) 35) = w0 at *
  generalize hbe : w.heap.size = b at *
  have HBE := Lib.hid hbe
  clear hbe
  refine (left_yes B p _ ms over w0 HX.out ho).mono ?_
  rintro e w1 ⟨rfl, q, hq⟩
  have HX1 : Hid (BoxAt B w1 p (.slice (some ⟨g, 0, none⟩) ms.length c) ms over) := by rw [hq]; exact HX.out.drewN q
  have HR1 : Hid (w1.heap[b]? = some (.cells (tmC 0 0) 35)) := by rw [hq]; exact HR.out
  have HB1d : Hid (Below b w w1) := by rw [hq]; exact ⟨HB1.out.os, HB1.out.tape, HB1.out.output, HB1.out.size, HB1.out.block⟩
  have HK1 : Hid (TmIn w1 g (over * 9) 1 n) := by rw [hq]; exact HK.out
  have hs1 : b < w1.heap.size := by rw [hq]; exact hsz
  clear hq HX HR HB1 hsz HK
  go_wp2_with fail
  have hp0 := HX1.out.c0
  have hp1 := HX1.out.c1
  have hkk := HK1.out
  have hi0 : (0 : Int) ≤ (over : Int) := by omega
  have hi1 : (over : Int) < (ms.length : Int) := by omega
  have HPK : Hid (∀ w3, Below w1.heap.size w1.drew w3 → w3.cell? ⟨p, 0, none⟩ = some (.slice (some ⟨g, 0, none⟩) ms.length c) ∧ w3.cell? ⟨p, 1, none⟩ = some (.int .i64 over) ∧ TmIn w3 g (over * 9) 1 n) := fun w3 hb => peek_keep (w := w1.drew) hp0 hp1 hkk hb (by show p < w1.heap.size; omega) (by show g < w1.heap.size; omega)
  have HRK : Hid (∀ w3, Below w1.heap.size w1.drew w3 → w3.heap[b]? = some (.cells (tmC 0 0) 35)) := fun w3 hb => (hb.block b hs1).trans HR1.out
  have hbp : ¬ b = p := by omega
  have hbg : ¬ b = g := by omega
  obtain ⟨k0, k1, k2, k3, k4, k5, k6, k7, k8⟩ := hkk
  go_region_held3 (fun w' => w'.cell? ⟨p, 0, none⟩ = some (.slice (some ⟨g, 0, none⟩) ms.length c) ∧ w'.cell? ⟨p, 1, none⟩ = some (.int .i64 over) ∧ w'.cell? ⟨g, over * 9, none⟩ = some (.int .i64 1) ∧ w'.cell? ⟨g, over * 9 + 1, none⟩ = some (.int .i64 n) ∧ w'.cell? ⟨g, over * 9 + 2, none⟩ = some (.complex .f64 0 0) ∧ w'.cell? ⟨g, over * 9 + 3, none⟩ = some (.string ⟨#[]⟩) ∧ w'.cell? ⟨g, over * 9 + 4, none⟩ = some (.int .i64 0) ∧ w'.cell? ⟨g, over * 9 + 5, none⟩ = some (.int .u32 0) ∧ w'.cell? ⟨g, over * 9 + 6, none⟩ = some (.int .u64 0) ∧ w'.cell? ⟨g, over * 9 + 7, none⟩ = some (.slice none 0 0) ∧ w'.cell? ⟨g, over * 9 + 8, none⟩ = some (.slice none 0 0))
    (first
      | (with_reducible exact hSF)
      | (with_reducible exact hS3)
      | go_keep)
    (first
      | (go_at_call 16; refine (copy_any n _ n0 n1).mono ?_; rintro e w3 ⟨rfl, hb3⟩; have hR3 := HRK.out _ hb3; have HR3 := Lib.hid hR3; have hfz := peek_fz hR3; have hS3 : w3.cell? ⟨p, 0, none⟩ = some (.slice (some ⟨g, 0, none⟩) ms.length c) ∧ w3.cell? ⟨p, 1, none⟩ = some (.int .i64 over) ∧ w3.cell? ⟨g, over * 9, none⟩ = some (.int .i64 1) ∧ w3.cell? ⟨g, over * 9 + 1, none⟩ = some (.int .i64 n) ∧ w3.cell? ⟨g, over * 9 + 2, none⟩ = some (.complex .f64 0 0) ∧ w3.cell? ⟨g, over * 9 + 3, none⟩ = some (.string ⟨#[]⟩) ∧ w3.cell? ⟨g, over * 9 + 4, none⟩ = some (.int .i64 0) ∧ w3.cell? ⟨g, over * 9 + 5, none⟩ = some (.int .u32 0) ∧ w3.cell? ⟨g, over * 9 + 6, none⟩ = some (.int .u64 0) ∧ w3.cell? ⟨g, over * 9 + 7, none⟩ = some (.slice none 0 0) ∧ w3.cell? ⟨g, over * 9 + 8, none⟩ = some (.slice none 0 0) := HPK.out _ hb3; have hSF : (((((((((w3.setCell ⟨b, 0, none⟩ (.int .i64 1)).setCell ⟨b, 1, none⟩ (.int .i64 n)).setCell ⟨b, 2, none⟩ (.complex .f64 0 0)).setCell ⟨b, 3, none⟩ (.string ⟨#[]⟩)).setCell ⟨b, 4, none⟩ (.int .i64 0)).setCell ⟨b, 5, none⟩ (.int .u32 0)).setCell ⟨b, 6, none⟩ (.int .u64 0)).setCell ⟨b, 7, none⟩ (.slice none 0 0)).setCell ⟨b, 8, none⟩ (.slice none 0 0)).cell? ⟨p, 0, none⟩ = some (.slice (some ⟨g, 0, none⟩) ms.length c) ∧ (((((((((w3.setCell ⟨b, 0, none⟩ (.int .i64 1)).setCell ⟨b, 1, none⟩ (.int .i64 n)).setCell ⟨b, 2, none⟩ (.complex .f64 0 0)).setCell ⟨b, 3, none⟩ (.string ⟨#[]⟩)).setCell ⟨b, 4, none⟩ (.int .i64 0)).setCell ⟨b, 5, none⟩ (.int .u32 0)).setCell ⟨b, 6, none⟩ (.int .u64 0)).setCell ⟨b, 7, none⟩ (.slice none 0 0)).setCell ⟨b, 8, none⟩ (.slice none 0 0)).cell? ⟨p, 1, none⟩ = some (.int .i64 over) ∧ (((((((((w3.setCell ⟨b, 0, none⟩ (.int .i64 1)).setCell ⟨b, 1, none⟩ (.int .i64 n)).setCell ⟨b, 2, none⟩ (.complex .f64 0 0)).setCell ⟨b, 3, none⟩ (.string ⟨#[]⟩)).setCell ⟨b, 4, none⟩ (.int .i64 0)).setCell ⟨b, 5, none⟩ (.int .u32 0)).setCell ⟨b, 6, none⟩ (.int .u64 0)).setCell ⟨b, 7, none⟩ (.slice none 0 0)).setCell ⟨b, 8, none⟩ (.slice none 0 0)).cell? ⟨g, over * 9, none⟩ = some (.int .i64 1) ∧ (((((((((w3.setCell ⟨b, 0, none⟩ (.int .i64 1)).setCell ⟨b, 1, none⟩ (.int .i64 n)).setCell ⟨b, 2, none⟩ (.complex .f64 0 0)).setCell ⟨b, 3, none⟩ (.string ⟨#[]⟩)).setCell ⟨b, 4, none⟩ (.int .i64 0)).setCell ⟨b, 5, none⟩ (.int .u32 0)).setCell ⟨b, 6, none⟩ (.int .u64 0)).setCell ⟨b, 7, none⟩ (.slice none 0 0)).setCell ⟨b, 8, none⟩ (.slice none 0 0)).cell? ⟨g, over * 9 + 1, none⟩ = some (.int .i64 n) ∧ (((((((((w3.setCell ⟨b, 0, none⟩ (.int .i64 1)).setCell ⟨b, 1, none⟩ (.int .i64 n)).setCell ⟨b, 2, none⟩ (.complex .f64 0 0)).setCell ⟨b, 3, none⟩ (.string ⟨#[]⟩)).setCell ⟨b, 4, none⟩ (.int .i64 0)).setCell ⟨b, 5, none⟩ (.int .u32 0)).setCell ⟨b, 6, none⟩ (.int .u64 0)).setCell ⟨b, 7, none⟩ (.slice none 0 0)).setCell ⟨b, 8, none⟩ (.slice none 0 0)).cell? ⟨g, over * 9 + 2, none⟩ = some (.complex .f64 0 0) ∧ (((((((((w3.setCell ⟨b, 0, none⟩ (.int .i64 1)).setCell ⟨b, 1, none⟩ (.int .i64 n)).setCell ⟨b, 2, none⟩ (.complex .f64 0 0)).setCell ⟨b, 3, none⟩ (.string ⟨#[]⟩)).setCell ⟨b, 4, none⟩ (.int .i64 0)).setCell ⟨b, 5, none⟩ (.int .u32 0)).setCell ⟨b, 6, none⟩ (.int .u64 0)).setCell ⟨b, 7, none⟩ (.slice none 0 0)).setCell ⟨b, 8, none⟩ (.slice none 0 0)).cell? ⟨g, over * 9 + 3, none⟩ = some (.string ⟨#[]⟩) ∧ (((((((((w3.setCell ⟨b, 0, none⟩ (.int .i64 1)).setCell ⟨b, 1, none⟩ (.int .i64 n)).setCell ⟨b, 2, none⟩ (.complex .f64 0 0)).setCell ⟨b, 3, none⟩ (.string ⟨#[]⟩)).setCell ⟨b, 4, none⟩ (.int .i64 0)).setCell ⟨b, 5, none⟩ (.int .u32 0)).setCell ⟨b, 6, none⟩ (.int .u64 0)).setCell ⟨b, 7, none⟩ (.slice none 0 0)).setCell ⟨b, 8, none⟩ (.slice none 0 0)).cell? ⟨g, over * 9 + 4, none⟩ = some (.int .i64 0) ∧ (((((((((w3.setCell ⟨b, 0, none⟩ (.int .i64 1)).setCell ⟨b, 1, none⟩ (.int .i64 n)).setCell ⟨b, 2, none⟩ (.complex .f64 0 0)).setCell ⟨b, 3, none⟩ (.string ⟨#[]⟩)).setCell ⟨b, 4, none⟩ (.int .i64 0)).setCell ⟨b, 5, none⟩ (.int .u32 0)).setCell ⟨b, 6, none⟩ (.int .u64 0)).setCell ⟨b, 7, none⟩ (.slice none 0 0)).setCell ⟨b, 8, none⟩ (.slice none 0 0)).cell? ⟨g, over * 9 + 5, none⟩ = some (.int .u32 0) ∧ (((((((((w3.setCell ⟨b, 0, none⟩ (.int .i64 1)).setCell ⟨b, 1, none⟩ (.int .i64 n)).setCell ⟨b, 2, none⟩ (.complex .f64 0 0)).setCell ⟨b, 3, none⟩ (.string ⟨#[]⟩)).setCell ⟨b, 4, none⟩ (.int .i64 0)).setCell ⟨b, 5, none⟩ (.int .u32 0)).setCell ⟨b, 6, none⟩ (.int .u64 0)).setCell ⟨b, 7, none⟩ (.slice none 0 0)).setCell ⟨b, 8, none⟩ (.slice none 0 0)).cell? ⟨g, over * 9 + 6, none⟩ = some (.int .u64 0) ∧ (((((((((w3.setCell ⟨b, 0, none⟩ (.int .i64 1)).setCell ⟨b, 1, none⟩ (.int .i64 n)).setCell ⟨b, 2, none⟩ (.complex .f64 0 0)).setCell ⟨b, 3, none⟩ (.string ⟨#[]⟩)).setCell ⟨b, 4, none⟩ (.int .i64 0)).setCell ⟨b, 5, none⟩ (.int .u32 0)).setCell ⟨b, 6, none⟩ (.int .u64 0)).setCell ⟨b, 7, none⟩ (.slice none 0 0)).setCell ⟨b, 8, none⟩ (.slice none 0 0)).cell? ⟨g, over * 9 + 7, none⟩ = some (.slice none 0 0) ∧ (((((((((w3.setCell ⟨b, 0, none⟩ (.int .i64 1)).setCell ⟨b, 1, none⟩ (.int .i64 n)).setCell ⟨b, 2, none⟩ (.complex .f64 0 0)).setCell ⟨b, 3, none⟩ (.string ⟨#[]⟩)).setCell ⟨b, 4, none⟩ (.int .i64 0)).setCell ⟨b, 5, none⟩ (.int .u32 0)).setCell ⟨b, 6, none⟩ (.int .u64 0)).setCell ⟨b, 7, none⟩ (.slice none 0 0)).setCell ⟨b, 8, none⟩ (.slice none 0 0)).cell? ⟨g, over * 9 + 8, none⟩ = some (.slice none 0 0) := peek_keep3 n (HPK.out _ hb3) hbp hbg; obtain ⟨r0, r1, r2, r3, r4, r5, r6, r7, r8⟩ := TmAt.of_block hR3; clear hR3))
  all_goals
    go_wp2_with fail
    have R2 : Below b w (nine0 w3 b n) := (HB1d.out.drew.trans (hb3.mono (Nat.le_of_lt hs1))).trans ((nine0_turn w3 b n).below (by have := hb3.size; have : w1.drew.heap.size = w1.heap.size := rfl; omega) (fun i e => Nat.le_of_eq e.symm))
    have R4 := TmAt.of_block (nine0_block n HR3.out)
    dsimp only [nine0] at R2 R4
    clear r0 r1 r2 r3 r4 r5 r6 r7 r8
    generalize (((((((((w3.setCell ⟨b, 0, none⟩ (.int .i64 1)).setCell ⟨b, 1, none⟩ (.int .i64 n)).setCell ⟨b, 2, none⟩ (.complex .f64 0 0)).setCell ⟨b, 3, none⟩ (.string ⟨#[]⟩)).setCell ⟨b, 4, none⟩ (.int .i64 0)).setCell ⟨b, 5, none⟩ (.int .u32 0)).setCell ⟨b, 6, none⟩ (.int .u64 0)).setCell ⟨b, 7, none⟩ (.slice none 0 0)).setCell ⟨b, 8, none⟩ (.slice none 0 0)) = wf at *
    obtain ⟨r0, r1, r2, r3, r4, r5, r6, r7, r8⟩ := R4
    exact bodyPost_ret (v := .tuple #[tm 1 n, .bool true]) (by simp [results, Try.results12, go_sem, r0, r1, r2, r3, r4, r5, r6, r7, r8]) rfl ⟨rfl, by rw [HBE.out]; exact R2⟩
end Go.Proofs.Ytoipepppdaalpaa
