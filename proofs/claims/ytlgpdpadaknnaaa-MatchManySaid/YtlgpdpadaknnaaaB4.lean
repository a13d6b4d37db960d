/- match.look.part at atoms, tuples and lists. -/
import Derived.Test.YtlgpdpadaknnaaaB3
import Derived.Outline
namespace Go.Proofs.Ytlgpdpadaknnaaa
open Go.RowKit Go.Maps
set_option maxRecDepth 100000
attribute [local go_sem] run_store_complex run_store_func' run_store_nilFunc'

/-- the names met, and those of one part more -/
noncomputable def stepN (l : List ByteArray) : Tm → List ByteArray
  | .mk h _ => if h.kind = 9 then addN l h.s else l
/-- a part without parts -/
def leafT (k n : Int) (s : ByteArray) : Tm := .mk { kind := k, n := n, s := s } []
theorem Rep.leaf {w : World} {F : Nat → Prop} {k n : Int} {s : ByteArray} {c : Array Value} (h : Rep w F (leafT k n s) c) : c = lfC k n s := by
  obtain ⟨bv, lv, rfl, hb, vs, hl, hr⟩ := h
  have h1 := hb.2.2 rfl
  have h2 := hl.2.2 rfl
  subst h1 h2
  rfl
/-- a pattern's part that is no list -/
inductive LeafP : Tm → Prop
  | var (s : ByteArray) (h : VarName s) : LeafP (leafT 9 0 s)
  | atom (s : ByteArray) (h : nameB s = true) : LeafP (leafT 3 0 s)
theorem LeafP.eq {t : Tm} (h : LeafP t) : ∃ k s, t = leafT k 0 s := by
  cases h with
  | var s _ => exact ⟨_, _, rfl⟩
  | atom s _ => exact ⟨_, _, rfl⟩
theorem addN_len (l : List ByteArray) (s : ByteArray) : (addN l s).length ≤ l.length + 1 := by
  unfold addN
  split <;> simp
theorem stepN_len (l : List ByteArray) (t : Tm) : (stepN l t).length ≤ l.length + 1 := by
  obtain ⟨h, r⟩ := t
  by_cases hk : h.kind = 9
  · rw [show stepN l (.mk h r) = addN l h.s from if_pos hk]
    exact addN_len _ _
  · rw [show stepN l (.mk h r) = l from if_neg hk]
    omega
theorem foldN_len (l : List ByteArray) : ∀ ts : List Tm, (ts.foldl stepN l).length ≤ l.length + ts.length := by
  intro ts
  induction ts generalizing l with
  | nil => simp
  | cons t ts ih =>
    have h1 := ih (stepN l t)
    have h2 := stepN_len l t
    simp only [List.foldl_cons, List.length_cons]
    omega
set_option maxHeartbeats 2000000 in
theorem part_walk (k : Nat) (s : ByteArray) (la : Option Addr) (lc : Nat) (ts : List Tm) (vs : List (Array Value)) (deep : Nat) (F : Nat → Prop) (p m : Nat) (v : Value) (n : Nat) (l : List ByteArray) (w : World)
    (hk : k = 3 ∨ k = 6 ∨ k = 7) (hk3 : k = 3 → ts = []) (hcheck : ∀ w, Calls Try.prog 15 #[.agg (lfC k 0 s)] w (RB w (.int .i64 0)))
    (hleaf : ∀ t ∈ ts, LeafP t) (hrec : ∀ t ∈ ts, ∀ c v n l w, Look w p m v n l → Rep w F t c → n + 1 ≤ 4096 → l.length < 4096 → Calls Try.prog 20 #[.pointer (some ⟨p, 0, none⟩), .agg c, .int .i64 ((deep : Int) + 1)] w (PartPost w p m v (n + 1) (stepN l t)))
    (hd : deep ≤ 24) (hll : ts.length ≤ 256) (h : Look w p m v n l) (hn : n + 1 + ts.length ≤ 4096) (h4 : l.length + ts.length < 4096)
    (hrow : Row w F 31 9 (.slice la ts.length lc) ts.length (cat vs)) (hreps : Reps w F ts vs) (hF : ∀ b, F b → ¬ lookIn p m v b) :
    Calls Try.prog 20 #[.pointer (some ⟨p, 0, none⟩), .agg #[.int .i64 k, .int .i64 0, .complex .f64 0 0, .string s, .int .i64 0, .int .u32 0, .int .u64 0, nilV, .slice la ts.length lc], .int .i64 (deep : Int)] w (PartPost w p m v (n + 1 + ts.length) (ts.foldl stepN l)) := by
  have hw1 : IntKind.i64.wrap 1 = 1 := by decide
  have hw2 : IntKind.i64.wrap ((n : Int) + 1) = (n : Int) + 1 := wrapI (by omega) (by omega)
  have HC := Lib.hid hcheck
  have HR := Lib.hid hrow
  have HS := Lib.hid hreps
  have HH := Lib.hid hrec
  have HL := Lib.hid hleaf
  have HF := Lib.hid hF
  have H1 := Lib.hid (h.below ((Below.refl _ w).alloc (Nat.le_refl _) (.cells #[.int .i64 k, .int .i64 0, .complex .f64 0 0, .string s, .int .i64 0, .int .u32 0, .int .u64 0, nilV, .slice la ts.length lc] 31)))
  have HT := Lib.hid (Turn.alloc (lookIn p m v) w (.cells #[.int .i64 k, .int .i64 0, .complex .f64 0 0, .string s, .int .i64 0, .int .u32 0, .int .u64 0, nilV, .slice la ts.length lc] 31))
  have lp := h.lt.1
  have H4 := Lib.hid h4
  have HN4 := Lib.hid hn
  have hn1 : ((n : Int) + 1) ≤ 4096 := by omega
  have hn2 : n + 1 ≤ 4096 := by omega
  have hl2 : (ts.length : Int) ≤ 256 := by omega
  have hbp : ¬ w.heap.size = p := by omega
  have HN := Lib.hid (nine_new w k 0 0 0 s 0 0 0 nilV (.slice la ts.length lc) 31)
  have hs1 : w.heap.size < (w.alloc (.cells #[.int .i64 k, .int .i64 0, .complex .f64 0 0, .string s, .int .i64 0, .int .u32 0, .int .u64 0, nilV, .slice la ts.length lc] 31)).heap.size := by simp
  have hkf : ((k : Int) == 9) = false ∧ ((k : Int) == 10) = false ∧ ((k : Int) == 8) = false := by
    rcases hk with rfl | rfl | rfl <;> exact ⟨by decide, by decide, by decide⟩
  obtain ⟨kf9, kf10, kf8⟩ := hkf
  clear h h4 hn hcheck hrow hreps hrec hleaf hF
  go_enter Try.func20, Try.ntmps20
  go_wp2_with fail
  generalize hbb : w.heap.size = b at *
  have HB := Lib.hid hbb
  clear hbb
  generalize w.alloc (.cells #[.int .i64 k, .int .i64 0, .complex .f64 0 0, .string s, .int .i64 0, .int .u32 0, .int .u64 0, nilV, .slice la ts.length lc] 31) = w2 at *
  have q0 := H1.out.cells.1
  have k7 := HN.out.2.2.2.2.2.2.2.1
  go_still_tail 11, (by kernel_rfl)
  change wpList _ _ _ _ _ w2.drew
  have HN3 : Hid (NineAt w2.drew b k 0 0 0 s 0 0 0 nilV (.slice la ts.length lc)) := HN.out
  have H3 : Hid (Look w2.drew p m v n l) := Lib.hid (H1.out.below ((Below.refl _ _).drew))
  have HT3 : Hid (Turn (lookIn p m v) w w2.drew) := HT.out.drew
  have hs3 : b < w2.drew.heap.size := hs1
  clear q0 k7 HN H1 HT hs1
  generalize w2.drew = w3 at *
  have r0 := H3.out.cells.1
  have rf := H3.out.cells.2.2.2.1
  have k0 := HN3.out.1
  go_upto_region 4 with fail
  have H4b : Hid (Look (w3.setCell ⟨p, 0, none⟩ (.int .i64 ((n : Int) + 1))) p m v (n + 1) l) := Lib.hid (H3.out.count (n + 1) hn2)
  have HT4 := Lib.hid (HT3.out.andThen (Turn.setCell w3 p 0 (.int .i64 ((n : Int) + 1))) fun i e => .inl (.inl e))
  have HN5 := Lib.hid (HN3.out.block (Below.heap_setCell w3 ⟨p, 0, none⟩ (.int .i64 ((n : Int) + 1)) _ hbp))
  have hs4 : b < (w3.setCell ⟨p, 0, none⟩ (.int .i64 ((n : Int) + 1))).heap.size := by simp [World.setCell]; omega
  clear r0 rf k0 HT3 HN3 H3 hs3
  generalize w3.setCell ⟨p, 0, none⟩ (.int .i64 ((n : Int) + 1)) = w4 at *
  have r0 := H4b.out.cells.1
  obtain ⟨k0, k1, k2, k3, k4, k5, k6, k7, k8⟩ := HN5.out
  go_upto_region 25 with fail
  go_wp2_with fail
  refine (HC.out _).mono ?_
  rintro e w5 ⟨rfl, hb5⟩
  have HB5 : Below w4.heap.size w4 w5 := ((Below.refl _ w4).alloc (Nat.le_refl _) _).trans (hb5.mono (by simp))
  have HN6 := Lib.hid (HN5.out.block (HB5.block b hs4))
  have H6 := Lib.hid (H4b.out.below HB5)
  have HT6 := Lib.hid (HT4.out.trans (Turn.of_below (S := lookIn p m v) HB5))
  clear r0 k0 k1 k2 k3 k4 k5 k6 k7 k8 HB5 hb5 HN5 H4b HT4 hs4 HC
  have k0 := HN6.out.1
  have k8 := HN6.out.2.2.2.2.2.2.2.2
  go_upto_region 28 with fail
  go_cut [132] from 119 to 132 (fun t132 wx => t132 = .bool false ∧ wx = w5)
  case first =>
    rcases hk with rfl | rfl | rfl
    · obtain rfl := hk3 rfl
      go_wp2_with fail
      go_meet
      exact ⟨rfl, rfl⟩
    · by_cases h0 : (0 : Int) < (ts.length : Int)
      · go_wp2_with fail
        go_meet
        exact ⟨rfl, rfl⟩
      · go_wp2_with fail
        go_meet
        exact ⟨rfl, rfl⟩
    · by_cases h0 : (0 : Int) < (ts.length : Int)
      · go_wp2_with fail
        go_meet
        exact ⟨rfl, rfl⟩
      · go_wp2_with fail
        go_meet
        exact ⟨rfl, rfl⟩
  obtain ⟨rfl, rfl⟩ := hcut
  go_wp2_with fail
  go_loopw [143] (fun t143 wr => ∃ (i : Nat) (v' : Value), i ≤ ts.length ∧ t143 = .int .i64 i ∧ Look wr p m v' (n + 1 + i) ((ts.take i).foldl stepN l) ∧ Turn (lookIn p m v) w wr ∧ (v'.ownBlock = v.ownBlock ∨ ∀ b, v'.ownBlock = some b → w.heap.size ≤ b)) (fun t143 _ => ts.length - (intOf t143).toNat)
  case atStart => exact ⟨0, v, by omega, rfl, H6.out, HT6.out, .inl rfl⟩
  case round =>
    obtain ⟨i, v', hi, rfl, hLk, hT, hown⟩ := hrel
    have HLk := Lib.hid hLk
    have HTr := Lib.hid hT
    have HO := Lib.hid hown
    clear hLk hT hown H6 HT6 k0 k8 HN6
    by_cases hlt : i < ts.length
    · obtain ⟨g, cap, hv, hg, hd2, bv, pv, hrep, ⟨l2, hl3⟩, h9⟩ := HR.out.nine HS.out hlt
      cases hv
      have hLf := HL.out _ (List.getElem_mem hlt)
      obtain ⟨k1, s1, hkt⟩ := hLf.eq
      rw [hkt] at hl3
      obtain ⟨rfl, rfl⟩ : hd2 = { kind := k1, n := 0, s := s1 } ∧ l2 = [] := by
        have := hl3
        unfold leafT at this
        cases this
        exact ⟨rfl, rfl⟩
      have hgF := HF.out g hg
      have hgl := cell_lt h9.1
      have hkeep : ∀ b, F b → b < w.heap.size → wr.heap[b]? = w.heap[b]? := fun b e hb => HTr.out.block b hb (HF.out b e)
      have h9' := h9.block (hkeep g hg hgl)
      have hrep2 := Rep.keep hkeep _ _ hrep
      have hc := (hkt ▸ hrep2).leaf
      have HRep := Lib.hid hrep2
      have HM := Lib.hid (List.getElem_mem hlt)
      have HK := Lib.hid hkt
      obtain ⟨rfl, rfl⟩ : bv = nilV ∧ pv = nilV := by
        simp [hdC] at hc
        exact hc
      obtain ⟨k0, k1', k2, k3, k4, k5, k6, k7, k8⟩ := h9'
      have hlt' : (i : Int) < (ts.length : Int) := by omega
      have hi0 : (0 : Int) ≤ (i : Int) := by omega
      have HFt : Hid (((ts.take i).foldl stepN l).length < 4096) := Lib.hid (by have := foldN_len l (ts.take i); have := H4.out; simp at *; omega)
      clear h9 hkeep hrep hrep2 hl3 hg hgF hLf hc hkt hgl
      go_wp2_with fail
      refine (HH.out _ HM.out _ v' (n + 1 + i) _ _ (HLk.out.below ((Below.refl _ wr).alloc (Nat.le_refl _) _)) (Rep.keep (fun b _ hb => ((Below.refl _ wr).alloc (Nat.le_refl _) _).block b hb) _ _ HRep.out) (by have := HN4.out; omega) HFt.out).mono ?_
      rintro e w9 ⟨rfl, v9, hL9, hT9, hO9⟩
      have HL9 := Lib.hid hL9
      have HT9 := Lib.hid ((HTr.out.trans (Turn.alloc _ wr _)).andThen hT9 (fun j e => by
        rcases e with e | e | e
        · exact .inl (.inl e)
        · exact .inl (.inr (.inl e))
        · rcases HO.out with ho | ho
          · exact .inl (.inr (.inr (by rw [← ho]; exact e)))
          · exact .inr (ho _ e)))
      have HO9 : Hid (v9.ownBlock = v.ownBlock ∨ ∀ b, v9.ownBlock = some b → w.heap.size ≤ b) := Lib.hid (by
        rcases hO9 with e | e
        · rw [e]; exact HO.out
        · exact .inr fun b eb => by have h1 := e b eb; have h2 := HTr.out.size; simp at h1; omega)
      clear hL9 hT9 hO9
      go_wp2_with fail
      go_round
      case rel => exact ⟨i + 1, v9, by omega, by go_num, by rw [List.take_succ_eq_append_getElem hlt, List.foldl_append]; exact HL9.out, HT9.out, HO9.out⟩
      case measure => simp [intOf]; omega
    · obtain rfl : i = ts.length := by omega
      go_wp2_with fail
      go_ret
      exact ⟨rfl, v', by have := HLk.out; rw [List.take_length] at this; exact this, HTr.out, HO.out⟩
end Go.Proofs.Ytlgpdpadaknnaaa
