/- match.table: what stands for which name. -/
import Derived.Test.YtlgpdpadaknnaaaB5
import Derived.Test.YtlgpdpadaknnaaaB6
namespace Go.Proofs.Ytlgpdpadaknnaaa
open Go.RowKit Go.Maps
set_option maxRecDepth 100000
attribute [local go_sem] run_store_complex run_store_func' run_store_nilFunc'

section
variable {P : Program} (w : World) {ops : Array Oper} {rest : List Oper} {o : Oper} {a : Act} {Q : Exit → Act → World → Prop}
/-- 'v, ok := m[k]' where elements read as themselves -/
theorem wpList_held_ok (hg : o.guard = none) (m x : Operand) (t : TypeId) (hop : o.op = Op.lookup t m x true)
    (k e : TypeId) (K : Keyed P k) (ht : P.underlying t = some (.map k e)) (z : Value) (hz : (zeroValue e).run P w = .ok z w) (b n : Nat) (D : DataW Value)
    (hm : a.eval m = .map (some b)) (hown : w.ownsMap P k heldR b n D) (key : Value) (kl : Lit) (hx : a.eval x = key) (hkey : keyOf P k key = some kl) (v : Value) (hat : D.atKey kl (.held z) = .held v) (y : Bool) (hy : Maps.has D kl = y)
    (hK : wpList P ops Q rest (a.put o.dst (.tuple #[v, .bool y])) w) : wpList P ops Q (o :: rest) a w := by
  refine wpList_lookup_own_ok w hg m x t hop k e K ht heldR hz (.held z) [] rfl b n D hm hown key kl hx hkey fun v' ps hv => ?_
  rw [hat] at hv
  cases hv
  rw [hy]
  exact hK
/-- 'm[k]' where elements read as themselves -/
theorem wpList_held (hg : o.guard = none) (m x : Operand) (t : TypeId) (hop : o.op = Op.lookup t m x false)
    (k e : TypeId) (K : Keyed P k) (ht : P.underlying t = some (.map k e)) (z : Value) (hz : (zeroValue e).run P w = .ok z w) (b n : Nat) (D : DataW Value)
    (hm : a.eval m = .map (some b)) (hown : w.ownsMap P k heldR b n D) (key : Value) (kl : Lit) (hx : a.eval x = key) (hkey : keyOf P k key = some kl) (v : Value) (hat : D.atKey kl (.held z) = .held v)
    (hK : wpList P ops Q rest (a.put o.dst v) w) : wpList P ops Q (o :: rest) a w := by
  refine wpList_plain hg fun K' hK' => ?_
  obtain ⟨v', ps, hrun, hv⟩ := hown.lookup K ht hz (zd := .held z) (zp := []) rfl hkey
  rw [hat] at hv
  cases hv
  unfold Oper.wp
  simp [execOp, hop, hm, hx, hrun, Result.andThen]
  exact hK' _ _ hK
end
theorem bind_snoc {W : World} {m n : Nat} {l : List (ByteArray × Value)} {x : ByteArray × Value} (h : W.ownsMap Try.prog 9 heldR m n ((bindM l).put (key x.1) (.held x.2))) : bindAt W m n (l ++ [x]) := by
  unfold bindAt
  rw [bindM_snoc]
  exact h
theorem zeroT (w : World) : (zeroValue 31).run Try.prog w = .ok (lfV 0 0 ⟨#[]⟩) w := by kernel_rfl
/-- a bind: a name, and what stands for it -/
structure Bd where
  nm : ByteArray
  k : Int
  n : Int
  s : ByteArray
abbrev bdC (b : Bd) : Array Value := #[.string b.nm, .int .i64 b.k, .int .i64 b.n, .complex .f64 0 0, .string b.s, .int .i64 0, .int .u32 0, .int .u64 0, nilV, nilV]
abbrev bdP (b : Bd) : ByteArray × Value := (b.nm, lfV b.k b.n b.s)
/-- right binds -/
structure Binds (kn : List Bd) : Prop where
  nd : (kn.map Bd.nm).Nodup
  nm : ∀ b ∈ kn, VarName b.nm
  right : ∀ b ∈ kn, Right b.k b.n b.s
  len : kn.length ≤ 64
def bcat (kn : List Bd) : List Value := kn.flatMap fun b => (bdC b).toList
theorem bcat_len : ∀ kn : List Bd, (bcat kn).length = kn.length * 10
  | [] => rfl
  | b :: kn => by
    have := bcat_len kn
    simp only [bcat, List.flatMap_cons, List.length_append, List.length_cons] at *
    simp [bcat] at this
    simp
    omega
theorem bcat_get : ∀ (kn : List Bd) (i j : Nat) (hi : i < kn.length) (_ : j < 10), (bcat kn)[i * 10 + j]? = (bdC kn[i])[j]?
  | [], _, _, hi, _ => by simp at hi
  | b :: kn, 0, j, _, hj => by
    have e : bcat (b :: kn) = (bdC b).toList ++ bcat kn := rfl
    rw [e, Nat.zero_mul, Nat.zero_add, List.getElem?_append_left (by simp; omega)]
    simp
  | b :: kn, i + 1, j, hi, hj => by
    have e : bcat (b :: kn) = (bdC b).toList ++ bcat kn := rfl
    have := bcat_get kn i j (by simpa using hi) hj
    rw [e, List.getElem?_append_right (by simp; omega), show (i + 1) * 10 + j - (bdC b).toList.length = i * 10 + j by simp; omega, this]
    rfl
/-- ten cells in the midst of a block -/
def TenIn (w : World) (g o : Nat) (b : Bd) : Prop :=
  w.cell? ⟨g, o, none⟩ = some (.string b.nm) ∧ w.cell? ⟨g, o + 1, none⟩ = some (.int .i64 b.k) ∧ w.cell? ⟨g, o + 2, none⟩ = some (.int .i64 b.n) ∧ w.cell? ⟨g, o + 3, none⟩ = some (.complex .f64 0 0) ∧ w.cell? ⟨g, o + 4, none⟩ = some (.string b.s) ∧
  w.cell? ⟨g, o + 5, none⟩ = some (.int .i64 0) ∧ w.cell? ⟨g, o + 6, none⟩ = some (.int .u32 0) ∧ w.cell? ⟨g, o + 7, none⟩ = some (.int .u64 0) ∧ w.cell? ⟨g, o + 8, none⟩ = some nilV ∧ w.cell? ⟨g, o + 9, none⟩ = some nilV
theorem TenIn.block {w w' : World} {g o : Nat} {b : Bd} (h : TenIn w g o b) (e : w'.heap[g]? = w.heap[g]?) : TenIn w' g o b := by
  have c : ∀ o, w'.cell? ⟨g, o, none⟩ = w.cell? ⟨g, o, none⟩ := fun o => World.cell?_of_block (w := w) e
  unfold TenIn
  simp only [c]
  exact h
/-- a bind of a row of binds -/
theorem Row.ten {w : World} {F : Nat → Prop} {v : Value} {kn : List Bd} (h : Row w F 36 10 v kn.length (bcat kn)) {i : Nat} (hi : i < kn.length) :
    ∃ g cap, v = .slice (some ⟨g, 0, none⟩) kn.length cap ∧ F g ∧ TenIn w g (i * 10) kn[i] := by
  rcases h.1.2 with ⟨_, h0⟩ | ⟨g, cap, cur, hv, _, hh, _⟩
  · omega
  subst hv
  have c : ∀ j, j < 10 → w.cell? ⟨g, i * 10 + j, none⟩ = (bdC kn[i])[j]? := fun j hj => by
    rw [← bcat_get kn i j hi hj]
    have hlen := bcat_len kn
    have hlt : i * 10 + j < (bcat kn).length := by omega
    have := h.1.cells (g := g) rfl (i * 10 + j) (bcat kn)[i * 10 + j] (List.getElem?_eq_getElem hlt)
    rw [List.getElem?_eq_getElem hlt, ← this]
    simp [Addr.add_lit]
  exact ⟨g, cap, rfl, h.2.1 g rfl, c 0 (by omega), c 1 (by omega), c 2 (by omega), c 3 (by omega), c 4 (by omega), c 5 (by omega), c 6 (by omega), c 7 (by omega), c 8 (by omega), c 9 (by omega)⟩
theorem ten_of {w : World} {g : Nat} {b : Bd} {t : TypeId} (h : w.heap[g]? = some (.cells (bdC b) t (0, 0))) : TenIn w g 0 b := by
  refine ⟨?_, ?_, ?_, ?_, ?_, ?_, ?_, ?_, ?_, ?_⟩ <;> simp [World.cell?, h]
set_option maxHeartbeats 2000000 in
theorem table_ok (kn : List Bd) (hk : Binds kn) (F : Nat → Prop) (v : Value) (w : World) (hrow : Row w F 36 10 v kn.length (bcat kn)) (hF : ∀ b, F b → b < w.heap.size) :
    Calls Try.prog 16 #[v] w (fun e w' => ∃ m, e = .returned (.tuple #[.map (some m), .bool true]) ∧ bindAt w' m kn.length (kn.map bdP) ∧ Below w.heap.size w w' ∧ w.heap.size ≤ m) := by
  have hmm := @run_makeMap Try.prog
  have hlen := hk.len
  obtain ⟨la, lc, rfl⟩ := row_slice hrow.1
  have HK := Lib.hid hk
  have HR := Lib.hid hrow
  have HF := Lib.hid hF
  have hl2 : (kn.length : Int) ≤ 64 := by omega
  have HM0 : Hid (bindAt (w.alloc (.map #[] 0)) w.heap.size 0 []) := Lib.hid (World.ownsMap_made w _ _ _)
  have HB0 := Lib.hid ((Below.refl w.heap.size w).alloc (Nat.le_refl _) (.map #[] 0))
  clear hk hrow hF
  go_enter Try.func16, Try.ntmps16
  go_wp2_with fail
  go_loopw [15] (fun t15 wr => ∃ i : Nat, i ≤ kn.length ∧ t15 = .int .i64 i ∧ bindAt wr w.heap.size i ((kn.take i).map bdP) ∧ Below w.heap.size w wr) (fun t15 _ => kn.length - (intOf t15).toNat)
  case atStart => exact ⟨0, by omega, rfl, HM0.out, HB0.out⟩
  case round =>
    obtain ⟨i, hi, rfl, hM, hB⟩ := hrel
    have HM := Lib.hid hM
    have HB := Lib.hid hB
    clear hM hB HM0 HB0
    by_cases hlt : i < kn.length
    · obtain ⟨g, cap, hv, hg, h10⟩ := HR.out.ten hlt
      cases hv
      have hgw := HF.out g hg
      have h10' := h10.block (HB.out.block g hgw)
      have HI := Lib.hid (List.getElem_mem hlt)
      have HV := Lib.hid (HK.out.nm _ HI.out)
      have HRt := Lib.hid (HK.out.right _ HI.out)
      have HT := Lib.hid (show kn.take (i + 1) = kn.take i ++ [kn[i]] from List.take_succ_eq_append_getElem hlt)
      have HX := Lib.hid (show kn[i].nm ∉ ((kn.take i).map bdP).map (·.1) by
        have := HK.out.nd
        rw [← List.take_append_drop (i + 1) kn, HT.out, List.map_append, List.map_append, List.nodup_append] at this
        have := this.1
        rw [List.nodup_append] at this
        intro hm
        rw [List.map_map] at hm
        exact this.2.2 _ hm _ (by simp) rfl)
      generalize kn[i] = bd at *
      obtain ⟨nm, k, n, s⟩ := bd
      obtain ⟨c0, c1, c2, c3, c4, c5, c6, c7, c8, c9⟩ := h10'
      have hlt' : (i : Int) < (kn.length : Int) := by omega
      have hi0 : (0 : Int) ≤ (i : Int) := by omega
      clear h10 hg HI
      simp only at c0 c1 c2 c4
      have HKe := Lib.hid (keyS (s := nm) (by have := HV.out.le; unfold maxLen; simp only at this; omega))
      have HHas : Hid (Maps.has (bindM ((kn.take i).map bdP)) (key nm) = false) := Lib.hid (by rw [has_bindM]; exact decide_eq_false HX.out)
      have HAt := Lib.hid (atKey_of_not_has HHas.out (.held (lfV 0 0 ⟨#[]⟩)))
      have HMa : Hid (bindAt (wr.alloc (.cells #[.string nm, .int .i64 k, .int .i64 n, .complex .f64 0 0, .string s, .int .i64 0, .int .u32 0, .int .u64 0, nilV, nilV] 36)) w.heap.size i ((kn.take i).map bdP)) := Lib.hid (HM.out.alloc _)
      go_upto_region 8 with (at_lookup; go_loud (refine wpList_held_ok _ rfl _ _ 50 rfl 9 31 lawS Try.underlying50 (lfV 0 0 ⟨#[]⟩) (zeroT _) w.heap.size _ _ rfl HMa.out _ _ rfl HKe.out _ HAt.out false HHas.out ?_))
      have HBt := ((Below.refl wr.heap.size wr).alloc (Nat.le_refl _) (.cells #[.string nm, .int .i64 k, .int .i64 n, .complex .f64 0 0, .string s, .int .i64 0, .int .u32 0, .int .u64 0, nilV, nilV] 36)).alloc (by simp) (.cells (lfC 0 0 ⟨#[]⟩) 31)
      have HM2 := Lib.hid (HMa.out.alloc (.cells (lfC 0 0 ⟨#[]⟩) 31))
      have HB2 := Lib.hid (HB.out.trans (HBt.mono HB.out.size))
      have HX2 := Lib.hid (heap_new2 wr (.cells #[.string nm, .int .i64 k, .int .i64 n, .complex .f64 0 0, .string s, .int .i64 0, .int .u32 0, .int .u64 0, nilV, nilV] 36) (.cells (lfC 0 0 ⟨#[]⟩) 31))
      have hs2 : wr.heap.size < ((wr.alloc (.cells #[.string nm, .int .i64 k, .int .i64 n, .complex .f64 0 0, .string s, .int .i64 0, .int .u32 0, .int .u64 0, nilV, nilV] 36)).alloc (.cells (lfC 0 0 ⟨#[]⟩) 31)).heap.size := by simp; omega
      have hts : w.heap.size < wr.heap.size := HM.out.lt
      clear HM HB HBt HMa c0 c1 c2 c3 c4 c5 c6 c7 c8 c9
      generalize (wr.alloc (.cells #[.string nm, .int .i64 k, .int .i64 n, .complex .f64 0 0, .string s, .int .i64 0, .int .u32 0, .int .u64 0, nilV, nilV] 36)).alloc (.cells (lfC 0 0 ⟨#[]⟩) 31) = w2 at *
      generalize wr.heap.size = tt at *
      have hT2 := ten_of (b := ⟨nm, k, n, s⟩) HX2.out
      obtain ⟨c0, c1, c2, c3, c4, c5, c6, c7, c8, c9⟩ := hT2
      go_wp2_with fail
      refine (vname_good nm HV.out _).mono ?_
      rintro e w3 ⟨rfl, hb3⟩
      have HM3 := Lib.hid (map_same HM2.out (hb3.block _ (by omega)))
      have HB3 := Lib.hid (HB2.out.trans (hb3.mono HB2.out.size))
      have HX3 := Lib.hid ((hb3.block _ hs2).trans HX2.out)
      have hs3 : tt < w3.heap.size := by have := hb3.size; omega
      clear c0 c1 c2 c3 c4 c5 c6 c7 c8 c9 hb3 HM2 HB2 HX2 hs2
      obtain ⟨c0, c1, c2, c3, c4, c5, c6, c7, c8, c9⟩ := ten_of (b := ⟨nm, k, n, s⟩) HX3.out
      go_wp2_with fail
      refine (HRt.out _).mono ?_
      rintro e w4 ⟨rfl, hb4⟩
      have HM4 := Lib.hid (map_same HM3.out (hb4.block _ (by omega)))
      have HB4 := Lib.hid (HB3.out.trans (hb4.mono HB3.out.size))
      have HX4 := Lib.hid ((hb4.block _ hs3).trans HX3.out)
      clear c0 c1 c2 c3 c4 c5 c6 c7 c8 c9 hb4 HM3 HB3 HX3 hs3
      obtain ⟨c0, c1, c2, c3, c4, c5, c6, c7, c8, c9⟩ := ten_of (b := ⟨nm, k, n, s⟩) HX4.out
      go_wp2_with (at_mapUpdate; go_loud (refine wpList_mapUpdate_own _ rfl _ _ _ 50 rfl 9 31 lawS Try.underlying50 heldR w.heap.size _ _ rfl HM4.out (by unfold maxLen; omega) _ _ _ rfl rfl HKe.out (.held (lfV k n s)) [] rfl ?_; intro w5 hm5 hg5; have HM5 := Lib.hid hm5; have HB5 := Lib.hid (HB4.out.trans ⟨hg5.os, hg5.tape, hg5.output, hg5.size, fun j hj => hg5.block j (by have := HB4.out.size; omega) (by simp; omega)⟩); clear hm5 hg5))
      go_round
      case rel => exact ⟨i + 1, by omega, by go_num, by rw [HT.out, List.map_append, List.map_singleton]; exact bind_snoc HM5.out, HB5.out⟩
      case measure => simp [intOf]; omega
    · obtain rfl : i = kn.length := by omega
      go_wp2_with fail
      go_ret2
      exact ⟨_, rfl, by have := HM.out; rw [List.take_length] at this; exact this, HB.out, by omega⟩
end Go.Proofs.Ytlgpdpadaknnaaa
