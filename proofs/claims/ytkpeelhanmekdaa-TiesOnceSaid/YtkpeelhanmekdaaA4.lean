/- term.Check of right terms. -/
import Derived.Test.YtkpeelhanmekdaaA3
namespace Go.Proofs.Ytkpeelhanmekdaa.G
set_option linter.unusedVariables false
set_option linter.unusedSimpArgs false
set_option linter.constructorNameAsVariable false
open Go.RowKit
set_option maxRecDepth 100000
attribute [local go_sem] run_store_complex run_store_func' run_store_nilFunc'
theorem enters {f : FuncId} {fn : Func} (hf : Try.prog.funcs[f]? = some fn) (hn : (fn.name == "runtime.NumGoroutine") = false) (hb : fn.body.isSome = true) : ∀ args w, (callFunc f args).run Try.prog w = .ok (.enter f args) w := fun args w => by
  obtain ⟨c, hc⟩ := Option.isSome_iff_exists.1 hb
  have hn' : ¬ fn.name = "runtime.NumGoroutine" := by simpa using hn
  simp [callFunc, hf, hn', hc]
theorem good9 (s : ByteArray) (hs : s.size ≤ maxLen) (w : World) : Calls Try.prog 43 #[vA s] w (RB w (.bool (nameB s))) := by
  have HR := Lib.hid (fun w => tmname_any s w hs)
  generalize nameB s = d at *
  go_enter Try.func43, Try.ntmps43
  go_wp2_with fail
  refine (HR.out _).mono ?_
  rintro e w1 ⟨rfl, hb1⟩
  have HB := Lib.hid hb1
  clear hb1
  go_wp2_with fail
  go_ret
  exact ⟨rfl, ((Below.refl w.heap.size w).alloc (Nat.le_refl _) _).trans (HB.out.mono (by simp))⟩
/-- A RIGHT TERM: look.part counts it, and finds nothing wrong. -/
theorem look_good : ∀ (rest : Nat) (t : Tm), rest ≤ 24 → GoodT rest t → ∀ (F : Nat → Prop) (c : Array Value) (p m : Nat) (w : World), LkAt w p m → Rep w F t c → (∀ b, F b → b ≠ p) → m + sizeT t ≤ 4096 →
    ∀ d : Int, d = ((25 - rest : Nat) : Int) → Calls Try.prog 28 #[.pointer (some ⟨p, 0, none⟩), .agg c, .int .i64 d] w (LkPost w p (m + sizeT t)) := by
  intro rest
  induction rest with
  | zero => intro t _ h; exact absurd h (by cases t; simp [GoodT])
  | succ rest ih =>
    rintro ⟨h, l⟩ hr ⟨hd, hl⟩ F c p m w hp hrep hF hsz d rfl
    have hrec : ∀ t ∈ l, ∀ c m w, LkAt w p m → Rep w F t c → m + sizeT t ≤ 4096 → Calls Try.prog 28 #[.pointer (some ⟨p, 0, none⟩), .agg c, .int .i64 (((25 - (rest + 1) : Nat) : Int) + 1)] w (LkPost w p (m + sizeT t)) :=
      fun t ht c m w hp hrep hs => ih t (by omega) (hl t ht) F c p m w hp hrep hF hs _ (by omega)
    have hdeep : 25 - (rest + 1) ≤ 24 := by omega
    generalize 25 - (rest + 1) = deep at *
    obtain ⟨bv, lv, rfl, hb, vs, hlv, hreps⟩ := hrep
    obtain ⟨ba, bc, rfl⟩ := row_slice hb.1
    obtain ⟨la, lc, rfl⟩ := row_slice hlv.1
    have hs' : m + 1 + h.b.length + sizeTs l ≤ 4096 := by simp only [sizeT] at hsz; omega
    have key : Calls Try.prog 28 #[.pointer (some ⟨p, 0, none⟩), .agg (hdC h (.slice ba h.b.length bc) (.slice la l.length lc)), .int .i64 (deep : Int)] w (LkPost w p (m + 1 + h.b.length + sizeTs l)) := by
      cases hd with
      | int n hn =>
        have e1 := hb.2.2 rfl
        have e2 := hlv.2.2 rfl
        rw [e1, e2]
        rw [e1] at hb
        rw [e2] at hlv
        exact lk_walk 1 40 33 n 0 0 0 0 0 ⟨#[]⟩ none 0 0 none 0 [] vs deep F p m w (by decide) (by decide) (fun _ => rfl) (fun _ => rfl) (enters Try.func40 (by kernel_rfl) (by kernel_rfl)) (enters Try.func33 (by kernel_rfl) (by kernel_rfl)) (fun w => bare6 n w) (fun w => by have := good1a n w; rw [hn] at this; exact this) hrec hdeep (by simp) hs' hp hlv hreps hF
      | atom s hn =>
        have e1 := hb.2.2 rfl
        have e2 := hlv.2.2 rfl
        rw [e1, e2]
        rw [e1] at hb
        rw [e2] at hlv
        exact lk_walk 3 42 43 0 0 0 0 0 0 s none 0 0 none 0 [] vs deep F p m w (by decide) (by decide) (fun _ => rfl) (fun _ => rfl) (enters Try.func42 (by kernel_rfl) (by kernel_rfl)) (enters Try.func43 (by kernel_rfl) (by kernel_rfl)) (fun w => bare8 s w) (fun w => by have := good9 s (by have := nameB_size hn; unfold maxLen; omega) w; rw [hn] at this; exact this) hrec hdeep (by simp) hs' hp hlv hreps hF
      | id k node boot idn hk _ _ _ hn =>
        have e1 := hb.2.2 rfl
        have e2 := hlv.2.2 rfl
        rw [e1, e2]
        rw [e1] at hb
        rw [e2] at hlv
        rcases hk with rfl | rfl
        · exact lk_walk 4 38 35 0 node boot idn 0 0 ⟨#[]⟩ none 0 0 none 0 [] vs deep F p m w (by decide) (by decide) (fun _ => rfl) (fun _ => rfl) (enters Try.func38 (by kernel_rfl) (by kernel_rfl)) (enters Try.func35 (by kernel_rfl) (by kernel_rfl)) (fun w => bare4 4 node boot idn w) (fun w => by have := good2 4 node boot idn w; rw [hn] at this; exact this) hrec hdeep (by simp) hs' hp hlv hreps hF
        · exact lk_walk 5 38 35 0 node boot idn 0 0 ⟨#[]⟩ none 0 0 none 0 [] vs deep F p m w (by decide) (by decide) (fun _ => rfl) (fun _ => rfl) (enters Try.func38 (by kernel_rfl) (by kernel_rfl)) (enters Try.func35 (by kernel_rfl) (by kernel_rfl)) (fun w => bare4 5 node boot idn w) (fun w => by have := good2 5 node boot idn w; rw [hn] at this; exact this) hrec hdeep (by simp) hs' hp hlv hreps hF
      | list k _ hk hl2 =>
        have e1 := hb.2.2 rfl
        rw [e1]
        rcases hk with rfl | rfl
        · exact lk_walk 6 39 37 0 0 0 0 0 0 ⟨#[]⟩ none 0 0 la lc l vs deep F p m w (by decide) (by decide) (fun _ => rfl) (fun _ => rfl) (enters Try.func39 (by kernel_rfl) (by kernel_rfl)) (enters Try.func37 (by kernel_rfl) (by kernel_rfl)) (fun w => bare5 6 la _ lc w) (fun w => good3 _ w) hrec hdeep hl2 hs' hp hlv hreps hF
        · exact lk_walk 7 39 37 0 0 0 0 0 0 ⟨#[]⟩ none 0 0 la lc l vs deep F p m w (by decide) (by decide) (fun _ => rfl) (fun _ => rfl) (enters Try.func39 (by kernel_rfl) (by kernel_rfl)) (enters Try.func37 (by kernel_rfl) (by kernel_rfl)) (fun w => bare5 7 la _ lc w) (fun w => good3 _ w) hrec hdeep hl2 hs' hp hlv hreps hF
    refine key.mono ?_
    rintro e w' ⟨h1, h2, h3⟩
    exact ⟨h1, by simp only [sizeT]; rw [← Nat.add_assoc, ← Nat.add_assoc]; exact h2, h3⟩
set_option maxHeartbeats 1000000 in
theorem check_of (k n node boot idn : Int) (re im : Nat) (s : ByteArray) (ba : Option Addr) (bn bc : Nat) (la : Option Addr) (ll lc : Nat) (r : Int) (w : World)
    (hpart : ∀ p w1, Below w.heap.size w w1 → w.heap.size ≤ p → LkAt w1 p 0 → Calls Try.prog 28 #[.pointer (some ⟨p, 0, none⟩), .agg #[.int .i64 k, .int .i64 n, .complex .f64 re im, .string s, .int .i64 node, .int .u32 boot, .int .u64 idn, .slice ba bn bc, .slice la ll lc], .int .i64 1] w1 fun e w' => e = .returned (.int .i64 r) ∧ Turn (fun i => i = p) w1 w') :
    Calls Try.prog 22 #[.agg #[.int .i64 k, .int .i64 n, .complex .f64 re im, .string s, .int .i64 node, .int .u32 boot, .int .u64 idn, .slice ba bn bc, .slice la ll lc]] w (RB w (.int .i64 r)) := by
  have HPart := Lib.hid hpart
  have hi59 : (Try.prog.info? 74).map (·.size) = some (kL 0).size := by kernel_rfl
  have hall : (kL 0).all (·.oneCell') = true := by kernel_rfl
  clear hpart
  go_enter Try.func22, Try.ntmps22
  go_wp2_with fail
  refine (kinds_any _).mono ?_
  rintro e w1 ⟨rfl, hb1⟩
  have HN1 := Lib.hid (NineAt.block (nine_new w k n re im s node boot idn (.slice ba bn bc) (.slice la ll lc) 44) (hb1.block _ (by simp)))
  have HB1 := Lib.hid (((Below.refl w.heap.size w).alloc (Nat.le_refl _) _).trans (hb1.mono (by simp)))
  have hs1 : w.heap.size < w1.heap.size := by have := hb1.size; simp at this; omega
  clear hb1
  obtain ⟨k0, k1, k2, k3, k4, k5, k6, k7, k8⟩ := HN1.out
  go_wp2_with (refine wpList_store_row rfl 74 (.tmp 3) (.tmp 5) rfl w1.heap.size (kL 0) rfl rfl 74 #[.int .i64 0, .nilFunc, .nilFunc, .nilFunc, .nilFunc, .nilFunc, .nilFunc, .nilFunc, .nilFunc, .nilFunc, .nilFunc, .nilFunc, .nilFunc, .nilFunc, .nilFunc, .nilFunc, .nilFunc, .nilFunc, .nilFunc] (heap_new _ _) hi59 rfl hall ?_; rw [setRow_new])
  refine (HPart.out w1.heap.size _ (HB1.out.alloc (by omega) _) (by omega) (heap_new w1 _)).mono ?_
  rintro e w2 ⟨rfl, ht⟩
  have hb2 : Below w.heap.size w1 w2 := ((Below.refl w.heap.size w1).alloc (by omega) (.cells (kL 0) 74)).trans (ht.below (by simp; omega) (fun i e => by omega))
  have HB2 := Lib.hid (HB1.out.trans hb2)
  clear ht hb2 k0 k1 k2 k3 k4 k5 k6 k7 k8
  go_wp2_with fail
  go_ret
  exact ⟨rfl, HB2.out⟩
/-- Check OF A RIGHT TERM -/
theorem check_good (t : Tm) (ht : GoodT 24 t) (hsz : sizeT t ≤ 4096) (F : Nat → Prop) (c : Array Value) (w : World) (hrep : Rep w F t c) (hF : ∀ b, F b → b < w.heap.size) : Calls Try.prog 22 #[.agg c] w (RB w (.int .i64 0)) := by
  obtain ⟨h, l⟩ := t
  have hrep' := hrep
  obtain ⟨bv, lv, rfl, hb, vs, hlv, hreps⟩ := hrep
  obtain ⟨ba, bc, rfl⟩ := row_slice hb.1
  obtain ⟨la, lc, rfl⟩ := row_slice hlv.1
  refine check_of _ _ _ _ _ _ _ _ _ _ _ _ _ _ _ w fun p w1 hb1 hp1 hL => ?_
  refine (look_good 24 _ (Nat.le_refl _) ht F _ p 0 w1 hL (Rep.keep (fun b _ hb => hb1.block b hb) _ _ hrep') (fun b e => by have := hF b e; omega) (by omega) 1 rfl).mono ?_
  rintro e w' ⟨h1, _, h3⟩
  exact ⟨h1, h3⟩
end Go.Proofs.Ytkpeelhanmekdaa.G
