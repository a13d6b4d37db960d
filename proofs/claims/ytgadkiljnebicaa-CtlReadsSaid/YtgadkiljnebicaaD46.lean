/- Several texts in one. -/
import Derived.Test.YtgadkiljnebicaaD45
set_option linter.unusedVariables false
set_option linter.unusedSimpArgs false
namespace Go.Proofs.Ytgadkiljnebicaa
open Go.Lib (hid)
open Go.RowKit
set_option maxRecDepth 100000
attribute [local go_sem] run_store_complex
theorem sg_end {B R : Nat} {w wr : World} {old : Array Value} (sc : Array Value) (hb : Below B w wr) (hR : B ≤ R) (hr : wr.heap[R]? = some (.cells old 33 (0,0))) : (wr.setRow R sc).heap[R]? = some (.cells sc 33 (0,0)) ∧ Below B w (wr.setRow R sc) :=
 ⟨setRow_heap wr R old sc _ _ hr,hb.trans ((setRow_turn wr R sc).below (Nat.le_trans hR (Nat.le_of_lt (blk_lt hr))) fun i e => by omega)⟩
set_option maxHeartbeats 2000000 in
theorem ctl_long (a : Option Addr) (c : Nat) (bs : List UInt8) (w : World) (hl : 1000 < bs.length) : Calls Try.prog 5 #[.slice a bs.length c] w (CtlPost w (ctlP bs)) := by
 have HK := hid (show ctlP bs = .error 231 by unfold ctlP; rw [if_pos hl])
 have hlI : (1000 : Int) < (bs.length : Int) := by omega
 have HR := hid (heap_new w (.cells sgZ 33))
 have HB := hid ((Below.refl w.heap.size w).alloc (Nat.le_refl _) (.cells sgZ 33))
 clear hl
 go_enter Try.func5,Try.ntmps5
 go_wp2_with (refine wpList_store_row rfl 33 (.tmp 2) (.tmp 16) rfl w.heap.size sgZ rfl rfl 33 sgZ HR.out infoSg rfl (by simp [Array.all,Value.oneCell']) ?_)
 have hE := sg_end sgZ HB.out (Nat.le_refl _) HR.out
 exact bodyPost_ret (results_cell2 rfl _ _ w.heap.size 33 sgZ (0,0) _ (.int .i64 231) rfl rfl hE.1 Try.underlying33 rfl infoSg) rfl (by rw [HK.out]; exact ⟨rfl,hE.2⟩)
set_option maxHeartbeats 2000000 in
theorem ctl_err (a : Option Addr) (c : Nat) (bs : List UInt8) (w : World) (h : Sl w (.slice a bs.length c) (bs.map cellB)) (hl : ¬ 1000 < bs.length) (x : Int) (hd : decodeP bs = .error x) : Calls Try.prog 5 #[.slice a bs.length c] w (CtlPost w (ctlP bs)) := by
 have HK := hid (show ctlP bs = .error x by unfold ctlP; rw [if_neg hl,hd])
 have hlI : ¬ (1000 : Int) < (bs.length : Int) := by omega
 have hd2 : decide ((1000 : Int) < (bs.length : Int)) = false := decide_eq_false hlI
 have hx0 : (x != 0) = true := bne_iff_ne.2 (dec_err hd)
 have HR := hid (heap_new w (.cells sgZ 33))
 have HB := hid ((Below.refl w.heap.size w).alloc (Nat.le_refl _) (.cells sgZ 33))
 have HD := hid (decode_any _ bs (w.alloc (.cells sgZ 33)) (h.alloc _))
 rw [hd] at HD
 clear hl hd h
 go_enter Try.func5,Try.ntmps5
 go_wp2_with fail
 refine HD.out.mono ?_
 intro e w1 he
 obtain ⟨rfl,hb⟩ := he
 have HB1 := hid ((HB.out.trans (hb.mono HB.out.size)).alloc (Nat.le_trans HB.out.size hb.size) (.cells zC 31))
 have HR1 := hid ((Below.heap_alloc w1 (.cells zC 31) _ (Nat.lt_of_lt_of_le (blk_lt HR.out) hb.size)).trans ((hb.block _ (blk_lt HR.out)).trans HR.out))
 clear hb HD HR HB
 go_upto_region 4 with fail
 have e20 : w1.alloc (.cells zC 31) = w1.alloc (.cells #[.int .i64 0,.int .i64 0,.complex .f64 0 0,.string ⟨#[]⟩,.int .i64 0,.int .u32 0,.int .u64 0,nilV,nilV] 31) := rfl
 rw [e20] at HB1 HR1
 clear e20
 generalize w1.alloc (.cells #[.int .i64 0,.int .i64 0,.complex .f64 0 0,.string ⟨#[]⟩,.int .i64 0,.int .u32 0,.int .u64 0,nilV,nilV] 31) = w2 at *
 go_wp2_with (refine wpList_store_row rfl 33 (.tmp 2) (.tmp 24) rfl w.heap.size sgZ rfl rfl 33 sgZ HR1.out infoSg rfl (by simp [Array.all,Value.oneCell']) ?_)
 have hE := sg_end sgZ HB1.out (Nat.le_refl _) HR1.out
 exact bodyPost_ret (results_cell2 rfl _ _ w.heap.size 33 sgZ (0,0) _ (.int .i64 x) rfl rfl hE.1 Try.underlying33 rfl infoSg) rfl (by rw [HK.out]; exact ⟨rfl,hE.2⟩)
def PartsAt (w : World) (F : Nat → Prop) (g : Nat) (rest : List Tm) : Prop :=
 F g ∧ ∀ i (hi : i < rest.length),∃ (a1 : Option Addr) (m1 c1 : Nat) (a2 : Option Addr) (m2 c2 : Nat),Rep w F rest[i] (hdC rest[i].hd (.slice a1 m1 c1) (.slice a2 m2 c2)) ∧
  NineIn w g ((i + 1) * 9) rest[i].hd.kind rest[i].hd.n rest[i].hd.re rest[i].hd.im rest[i].hd.s rest[i].hd.node rest[i].hd.boot rest[i].hd.idn (.slice a1 m1 c1) (.slice a2 m2 c2)
theorem PartsAt.keep {w w' : World} {F : Nat → Prop} {g : Nat} {rest : List Tm} (h : PartsAt w F g rest) (hs : ∀ b,F b → b < w.heap.size → w'.heap[b]? = w.heap[b]?) : PartsAt w' F g rest := by
 refine ⟨h.1,fun i hi => ?_⟩
 obtain ⟨a1,m1,c1,a2,m2,c2,hr,hn⟩ := h.2 i hi
 exact ⟨a1,m1,c1,a2,m2,c2,Rep.keep hs _ _ hr,hn.block (hs g h.1 (cell_lt hn.1))⟩
theorem PartsAt.of {w : World} {F : Nat → Prop} {n g cap : Nat} {a : Tm} {rest : List Tm} {vs : List (Array Value)} (h : Row w F 31 9 (.slice (some ⟨g,0,none⟩) n cap) (a :: rest).length (cat vs)) (hr : Reps w F (a :: rest) vs) : PartsAt w (fun b => F b ∧ b < w.heap.size) g rest := by
 refine ⟨⟨h.2.1 g rfl,(h.1.lt g rfl).2⟩,fun i hi => ?_⟩
 obtain ⟨g',cap',e,_,hd,bv,pv,hrep,⟨l2,hl2⟩,hn⟩ := h.nine hr (i := i + 1) (by simpa using hi)
 have hl3 : rest[i] = .mk hd l2 := by simpa using hl2
 have hrep2 : Rep w F rest[i] (hdC hd bv pv) := by simpa using hrep
 obtain ⟨a1,c1,a2,c2,e2⟩ := rep_hdC hrep2
 have e3 : rest[i].hd = hd := by rw [hl3]; rfl
 rw [e3] at e2
 injection e with e4 _ _
 injection e4 with e4
 injection e4 with e4
 subst e4
 have e5 : bv = .slice a1 hd.b.length c1 := by have := congrArg (fun q : Array Value => q[7]?) e2; simpa using this
 have e6 : pv = .slice a2 rest[i].l.length c2 := by have := congrArg (fun q : Array Value => q[8]?) e2; simpa using this
 rw [e3]
 subst e5 e6
 exact ⟨_,_,_,_,_,_,Rep.mono (fun b e hb => ⟨e,hb⟩) _ _ hrep2,hn⟩
structure DcAt (S : Nat) (k : Int) (rest : List Tm) (j : Nat) (w4 wr : World) : Prop where
 sb : wr.heap[S]? = some (.cells (sgC k (sqTo k rest j).f (sqTo k rest j).t (sqTo k rest j).r {} nilV nilV 0) 33 (0,0))
 turn : Turn (fun i => i = S) w4 wr
 fit : ∀ i (h1 : i < (flds k).length) (h2 : i < rest.length),i < j → fitB k (flds k)[i] rest[i] = true
theorem DcAt.old {S : Nat} {k : Int} {rest : List Tm} {j : Nat} {w4 wr : World} (h : DcAt S k rest j w4 wr) {b : Nat} (hb : b ≠ S) (hl : b < w4.heap.size) : wr.heap[b]? = w4.heap[b]? := h.turn.block b hl hb
theorem DcAt.below {S R : Nat} {k : Int} {rest : List Tm} {j : Nat} {w w4 wr : World} (h : DcAt S k rest j w4 wr) (hb : Below R w w4) (hR : R < S) (hl : R ≤ w4.heap.size) : Below R w wr := hb.trans (h.turn.below hl fun i e => by omega)
theorem DcAt.call {S : Nat} {k : Int} {rest : List Tm} {j : Nat} {w4 wr w' : World} (h : DcAt S k rest j w4 wr) (hb : Below wr.heap.size wr w') : DcAt S k rest j w4 w' :=
 ⟨(hb.block S (blk_lt h.sb)).trans h.sb,h.turn.trans (Turn.of_below hb),h.fit⟩
theorem DcAt.parts {S g : Nat} {k : Int} {F : Nat → Prop} {rest : List Tm} {j : Nat} {w4 wr : World} (h : DcAt S k rest j w4 wr) (hp : PartsAt w4 F g rest) (hF : ∀ b,F b → b < S) : PartsAt wr F g rest :=
 hp.keep fun b e hb => h.old (by have := hF b e; omega) hb
theorem DcAt.next {S : Nat} {k : Int} {rest : List Tm} {j : Nat} {w4 wr w' : World} (h : DcAt S k rest j w4 wr) (h1 : j < (flds k).length) (h2 : j < rest.length) (hf : fitB k (flds k)[j] rest[j] = true) {s' : Sq} (hs' : (sqTo k rest j).put (flds k)[j] rest[j] = s') (ht : Turn (fun i => i = S) wr w')
  (hb : w'.heap[S]? = some (.cells (sgC k s'.f s'.t s'.r {} nilV nilV 0) 33 (0,0))) : DcAt S k rest (j + 1) w4 w' := by
 subst hs'
 refine ⟨by rw [sqTo_succ h1 h2]; exact hb,h.turn.trans ht,fun i h3 h4 h5 => ?_⟩
 rcases Nat.lt_succ_iff_lt_or_eq.1 h5 with h5 | rfl
 ·exact h.fit i h3 h4 h5
 ·exact hf
def mN (k : Int) : Nat := (hasK k).all.length + if hasN k = true then 1 else 0
theorem flds_n {k : Int} (h1 : 1 ≤ k) (h2 : k ≤ 11) (hn : hasN k = true) : ∃ h : (hasK k).all.length < (flds k).length,(flds k)[(hasK k).all.length] = .n := by
 obtain rfl : k = 4 := by simpa [hasN] using hn
 exact ⟨by decide,by rfl⟩
theorem flds_x {k : Int} (h1 : 1 ≤ k) (h2 : k ≤ 11) (hx : hasX k = true) : ∃ h : mN k < (flds k).length,(flds k)[mN k] = .x := by
 rcases kind_cases h1 h2 with rfl | rfl | rfl | rfl | rfl | rfl | rfl | rfl | rfl | rfl | rfl <;> first | exact ⟨by decide,by rfl⟩ | (exact absurd hx (by decide))
theorem flds_length {k : Int} (h1 : 1 ≤ k) (h2 : k ≤ 11) : (flds k).length = mN k + if hasX k = true then 1 else 0 := by
 rcases kind_cases h1 h2 with rfl | rfl | rfl | rfl | rfl | rfl | rfl | rfl | rfl | rfl | rfl <;> rfl
structure DcN (S : Nat) (k : Int) (rest : List Tm) (j : Nat) (w4 wr : World) : Prop where
 sb : wr.heap[S]? = some (.cells (sgC k (sqTo k rest j).f (sqTo k rest j).t (sqTo k rest j).r {} nilV nilV (sqTo k rest j).n) 33 (0,0))
 turn : Turn (fun i => i = S) w4 wr
 fit : ∀ i (h1 : i < (flds k).length) (h2 : i < rest.length),i < (hasK k).all.length → fitB k (flds k)[i] rest[i] = true
 kn : hasN k = true → ∀ (h : (hasK k).all.length < rest.length),rest[(hasK k).all.length].hd.kind = 1 ∧ 0 ≤ rest[(hasK k).all.length].hd.n
theorem DcN.old {S : Nat} {k : Int} {rest : List Tm} {j : Nat} {w4 wr : World} (h : DcN S k rest j w4 wr) {b : Nat} (hb : b ≠ S) (hl : b < w4.heap.size) : wr.heap[b]? = w4.heap[b]? := h.turn.block b hl hb
theorem DcN.below {S R : Nat} {k : Int} {rest : List Tm} {j : Nat} {w w4 wr : World} (h : DcN S k rest j w4 wr) (hb : Below R w w4) (hR : R < S) (hl : R ≤ w4.heap.size) : Below R w wr := hb.trans (h.turn.below hl fun i e => by omega)
theorem DcN.parts {S g : Nat} {k : Int} {F : Nat → Prop} {rest : List Tm} {j : Nat} {w4 wr : World} (h : DcN S k rest j w4 wr) (hp : PartsAt w4 F g rest) (hF : ∀ b,F b → b < S) : PartsAt wr F g rest :=
 hp.keep fun b e hb => h.old (by have := hF b e; omega) hb
structure DcX (S : Nat) (k : Int) (rest : List Tm) (F : Nat → Prop) (a1 : Option Addr) (m1 c1 : Nat) (a2 : Option Addr) (m2 c2 : Nat) (w4 wr : World) : Prop where
 sb : wr.heap[S]? = some (.cells (sgC k (sqTo k rest (flds k).length).f (sqTo k rest (flds k).length).t (sqTo k rest (flds k).length).r (sqTo k rest (flds k).length).x.hd (.slice a1 m1 c1) (.slice a2 m2 c2) (sqTo k rest (flds k).length).n) 33 (0,0))
 turn : Turn (fun i => i = S) w4 wr
 rep : Rep wr F (sqTo k rest (flds k).length).x (hdC (sqTo k rest (flds k).length).x.hd (.slice a1 m1 c1) (.slice a2 m2 c2))
 fit : ∀ i (h1 : i < (flds k).length) (h2 : i < rest.length),i < (hasK k).all.length → fitB k (flds k)[i] rest[i] = true
 kn : hasN k = true → ∀ (h : (hasK k).all.length < rest.length),rest[(hasK k).all.length].hd.kind = 1 ∧ 0 ≤ rest[(hasK k).all.length].hd.n
theorem ids_only {k : Int} (h1 : 1 ≤ k) (h2 : k ≤ 11) : (∀ d ∈ (flds k).take (hasK k).all.length,d ≠ .n ∧ d ≠ .x) ∧ ∀ d ∈ (flds k).take (mN k),d ≠ .x := by
 rcases kind_cases h1 h2 with rfl | rfl | rfl | rfl | rfl | rfl | rfl | rfl | rfl | rfl | rfl <;> (refine ⟨?_,?_⟩ <;> decide)
theorem DcAt.toN {S : Nat} {k : Int} {rest : List Tm} {w4 wr : World} (h1 : 1 ≤ k) (h2 : k ≤ 11) (h : DcAt S k rest (hasK k).all.length w4 wr) (hn : hasN k = false) : DcN S k rest (mN k) w4 wr := by
 have e : mN k = (hasK k).all.length := by simp [mN,hn]
 rw [e]
 refine ⟨?_,h.turn,fun i h3 h4 h5 => h.fit i h3 h4 h5,fun h => by rw [hn] at h; cases h⟩
 rw [sqTo_keep (·.n) .n keep_n k rest _ fun d hd => ((ids_only h1 h2).1 d hd).1]
 exact h.sb
theorem DcN.toX {S : Nat} {k : Int} {rest : List Tm} {F : Nat → Prop} {w4 wr : World} (h1 : 1 ≤ k) (h2 : k ≤ 11) (h : DcN S k rest (mN k) w4 wr) (hx : hasX k = false) : DcX S k rest F none 0 0 none 0 0 w4 wr := by
 have e : (flds k).length = mN k := by rw [flds_length h1 h2]; simp [hx]
 have ex : (sqTo k rest (flds k).length).x = .mk {} [] := by
  rw [sqTo_keep (·.x) .x keep_x k rest _ fun d hd => (ids_only h1 h2).2 d (by rw [← e]; exact hd)]
 refine ⟨?_,h.turn,?_,fun i h3 h4 h5 => h.fit i h3 h4 h5,h.kn⟩
 ·rw [ex,e]
  exact h.sb
 ·rw [ex]
  exact Rep.leaf (h := {}) rfl
theorem sg_put9 (k : Int) (f t r : I3) (h : Hd) (bv lv : Value) (n : Int) (g : Hd) (bv' lv' : Value) : ((((((((((sgC k f t r h bv lv n).setIfInBounds 10 (.int .i64 g.kind)).setIfInBounds (10 + 1) (.int .i64 g.n)).setIfInBounds (10 + 2) (.complex .f64 g.re g.im)).setIfInBounds (10 + 3) (.string g.s)).setIfInBounds (10 + 4) (.int .i64 g.node)).setIfInBounds (10 + 5) (.int .u32 g.boot)).setIfInBounds (10 + 6) (.int .u64 g.idn)).setIfInBounds (10 + 7) bv').setIfInBounds (10 + 8) lv') = sgC k f t r g bv' lv' n := by
 simp
theorem sqTo_n {k : Int} (h1 : 1 ≤ k) (h2 : k ≤ 11) {rest : List Tm} (hn : hasN k = true) (hr : (hasK k).all.length < rest.length) : sqTo k rest (mN k) = { (sqTo k rest (hasK k).all.length) with n := rest[(hasK k).all.length].hd.n } := by
 obtain ⟨h3,h4⟩ := flds_n h1 h2 hn
 have e : mN k = (hasK k).all.length + 1 := by simp [mN,hn]
 rw [e,sqTo_succ h3 hr,h4]
 rfl
theorem DcAt.nextN {S : Nat} {k : Int} {rest : List Tm} {w4 wr : World} (h1 : 1 ≤ k) (h2 : k ≤ 11) (h : DcAt S k rest (hasK k).all.length w4 wr) (hn : hasN k = true) (hr : (hasK k).all.length < rest.length) (hk : rest[(hasK k).all.length].hd.kind = 1) (h0 : 0 ≤ rest[(hasK k).all.length].hd.n) :
  DcN S k rest (mN k) w4 (wr.setCell ⟨S,19,none⟩ (.int .u64 rest[(hasK k).all.length].hd.n)) := by
 refine ⟨?_,h.turn.trans (Turn.setCell wr S 19 _),fun i h3 h4 h5 => h.fit i h3 h4 h5,fun _ _ => ⟨hk,h0⟩⟩
 rw [sqTo_n h1 h2 hn hr]
 have := heap_setCell_at (o := 19) (u := .int .u64 rest[(hasK k).all.length].hd.n) h.sb
 simpa using this
theorem sqTo_x {k : Int} (h1 : 1 ≤ k) (h2 : k ≤ 11) {rest : List Tm} (hx : hasX k = true) (hr : mN k < rest.length) : sqTo k rest (flds k).length = { (sqTo k rest (mN k)) with x := rest[mN k] } := by
 obtain ⟨h3,h4⟩ := flds_x h1 h2 hx
 have e : (flds k).length = mN k + 1 := by rw [flds_length h1 h2]; simp [hx]
 rw [e,sqTo_succ h3 hr,h4]
 rfl
theorem DcN.nextX {S : Nat} {k : Int} {rest : List Tm} {F : Nat → Prop} {w4 wr : World} {a1 : Option Addr} {m1 c1 : Nat} {a2 : Option Addr} {m2 c2 : Nat} (h1 : 1 ≤ k) (h2 : k ≤ 11) (h : DcN S k rest (mN k) w4 wr) (hx : hasX k = true) (hr : mN k < rest.length) (hrep : Rep wr F rest[mN k] (hdC rest[mN k].hd (.slice a1 m1 c1) (.slice a2 m2 c2))) (hF : ∀ b,F b → b < S) :
  DcX S k rest F a1 m1 c1 a2 m2 c2 w4 (set9o wr S 10 (.int .i64 rest[mN k].hd.kind) (.int .i64 rest[mN k].hd.n) (.complex .f64 rest[mN k].hd.re rest[mN k].hd.im) (.string rest[mN k].hd.s) (.int .i64 rest[mN k].hd.node) (.int .u32 rest[mN k].hd.boot) (.int .u64 rest[mN k].hd.idn) (.slice a1 m1 c1) (.slice a2 m2 c2)) := by
 have hT := set9o_turn wr S 10 (.int .i64 rest[mN k].hd.kind) (.int .i64 rest[mN k].hd.n) (.complex .f64 rest[mN k].hd.re rest[mN k].hd.im) (.string rest[mN k].hd.s) (.int .i64 rest[mN k].hd.node) (.int .u32 rest[mN k].hd.boot) (.int .u64 rest[mN k].hd.idn) (.slice a1 m1 c1) (.slice a2 m2 c2)
 refine ⟨?_,h.turn.trans hT,?_,fun i h3 h4 h5 => h.fit i h3 h4 h5,h.kn⟩
 ·rw [sqTo_x h1 h2 hx hr]
  exact set9o_at h.sb (sg_put9 _ _ _ _ _ _ _ _ _ _ _)
 ·rw [sqTo_x h1 h2 hx hr]
  exact Rep.keep (fun b e hb => hT.block b hb (by have := hF b e; omega)) _ _ hrep
theorem part_wf {r : Nat} {t : Tm} (h : GoodT r t) : -4611686018427387904 ≤ t.hd.n ∧ t.hd.n ≤ 4611686018427387903 := by
 cases r with
 | zero => exact h.elim
 | succ r =>
  obtain ⟨hd,l⟩ := t
  show -4611686018427387904 ≤ hd.n ∧ hd.n ≤ 4611686018427387903
  cases h.1 with
  | int n hn => simpa [inR] using hn
  | _ => exact ⟨by show (-4611686018427387904 : Int) ≤ 0; decide,by show (0 : Int) ≤ _; decide⟩
theorem has_not {k : Int} (h1 : 1 ≤ k) (h2 : k ≤ 11) : ((hasK k).f = false → ∀ d ∈ flds k,d ≠ .f) ∧ ((hasK k).t = false → ∀ d ∈ flds k,d ≠ .t) ∧ ((hasK k).r = false → ∀ d ∈ flds k,d ≠ .r) ∧ (hasN k = false → ∀ d ∈ flds k,d ≠ .n) ∧ (hasX k = false → ∀ d ∈ flds k,d ≠ .x) := by
 rcases kind_cases h1 h2 with rfl | rfl | rfl | rfl | rfl | rfl | rfl | rfl | rfl | rfl | rfl <;> (refine ⟨?_,?_,?_,?_,?_⟩ <;> decide)
theorem sq_x {k : Int} (h1 : 1 ≤ k) (h2 : k ≤ 11) {rest : List Tm} (hl : (flds k).length ≤ rest.length) (hx : hasX k = true) : ∃ h : mN k < rest.length,(sqTo k rest (flds k).length).x = rest[mN k] := by
 obtain ⟨h3,h4⟩ := flds_x h1 h2 hx
 have e : (flds k).length = mN k + 1 := by rw [flds_length h1 h2]; simp [hx]
 refine ⟨by omega,?_⟩
 rw [e,sqTo_succ h3 (by omega),h4]
 rfl
theorem sq_n {k : Int} (hn : hasN k = true) {rest : List Tm} (hl : (flds k).length ≤ rest.length) : ∃ h : (hasK k).all.length < rest.length,(sqTo k rest (flds k).length).n = rest[(hasK k).all.length].hd.n := by
 obtain rfl : k = 4 := by simpa [hasN] using hn
 have e : (flds 4).length = 4 := rfl
 rw [e] at hl
 have e2 : (hasK 4).all.length = 2 := rfl
 refine ⟨by rw [e2]; omega,?_⟩
 match rest,hl with
 | p :: q :: n :: x :: _,_ => rfl
theorem sq_pre {k : Int} (h1 : 1 ≤ k) (h2 : k ≤ 11) {rest : List Tm} (hl : (flds k).length ≤ rest.length) (hg : ∀ p ∈ rest,GoodT 24 p ∧ sizeT p ≤ 4096) (hk : hasN k = true → ∀ (h : (hasK k).all.length < rest.length),rest[(hasK k).all.length].hd.kind = 1 ∧ 0 ≤ rest[(hasK k).all.length].hd.n) :
  ((hasK k).f = false → (sqTo k rest (flds k).length).f = I3.zero) ∧ ((hasK k).t = false → (sqTo k rest (flds k).length).t = I3.zero) ∧ ((hasK k).r = false → (sqTo k rest (flds k).length).r = I3.zero) ∧
  (hasN k = false → (sqTo k rest (flds k).length).n = 0) ∧ 0 ≤ (sqTo k rest (flds k).length).n ∧ (hasX k = false → (sqTo k rest (flds k).length).x = .mk {} []) ∧ (hasX k = true → GoodT 24 (sqTo k rest (flds k).length).x ∧ sizeT (sqTo k rest (flds k).length).x ≤ 4096) := by
 obtain ⟨a1,a2,a3,a4,a5⟩ := has_not h1 h2
 have hn0 : hasN k = false → (sqTo k rest (flds k).length).n = 0 := fun h => sqTo_keep (·.n) .n keep_n k rest _ fun d hd => a4 h d (List.mem_of_mem_take hd)
 refine ⟨fun h => sqTo_keep (·.f) .f keep_f k rest _ fun d hd => a1 h d (List.mem_of_mem_take hd),fun h => sqTo_keep (·.t) .t keep_t k rest _ fun d hd => a2 h d (List.mem_of_mem_take hd),fun h => sqTo_keep (·.r) .r keep_r k rest _ fun d hd => a3 h d (List.mem_of_mem_take hd),hn0,?_,fun h => sqTo_keep (·.x) .x keep_x k rest _ fun d hd => a5 h d (List.mem_of_mem_take hd),fun h => ?_⟩
 ·cases hn : hasN k
  ·rw [hn0 hn]; exact Int.le_refl _
  ·obtain ⟨h3,h4⟩ := sq_n hn hl
   rw [h4]
   exact (hk hn h3).2
 ·obtain ⟨h3,h4⟩ := sq_x h1 h2 hl h
  rw [h4]
  exact hg _ (List.getElem_mem h3)
theorem fits_whole {k : Int} (h1 : 1 ≤ k) (h2 : k ≤ 11) {rest : List Tm} (hl : (flds k).length = rest.length) (hg : ∀ p ∈ rest,GoodT 24 p ∧ sizeT p ≤ 4096) (hf : ∀ i (h1 : i < (flds k).length) (h2 : i < rest.length),i < (hasK k).all.length → fitB k (flds k)[i] rest[i] = true)
  (hk : hasN k = true → ∀ (h : (hasK k).all.length < rest.length),rest[(hasK k).all.length].hd.kind = 1 ∧ 0 ≤ rest[(hasK k).all.length].hd.n) :
  wholeB k (sqTo k rest (flds k).length).f (sqTo k rest (flds k).length).t (sqTo k rest (flds k).length).r (sqTo k rest (flds k).length).x (sqTo k rest (flds k).length).n = fitsB k (flds k) rest := by
 have ok : ∀ p ∈ rest,(p.hd.kind = 4 ∨ p.hd.kind = 5) → (id3 p).ok = true := fun p hp h => good_id (hg p hp).1 h
 rcases kind_cases h1 h2 with rfl | rfl | rfl | rfl | rfl | rfl | rfl | rfl | rfl | rfl | rfl
 ·match rest,hl with
  | [p,q,u],_ =>
  have k0 : p.hd.kind = 5 := of_decide_eq_true (hf 0 (by decide) (by simp) (by decide))
  have o0 : (id3 p).ok = true := ok p (by simp) (.inr k0)
  have k1 : q.hd.kind = 5 := of_decide_eq_true (hf 1 (by decide) (by simp) (by decide))
  have o1 : (id3 q).ok = true := ok q (by simp) (.inr k1)
  show wholeB 1 (id3 p) (id3 q) I3.zero u 0 = _
  rw [show flds 1 = [.f,.t,.x] from rfl]
  simp only [wholeB,show idsB 1 (id3 p) (id3 q) I3.zero = ((id3 p).ok && (id3 q).ok && true) from by simp [idsB,hasK,Has.all,Has.p2,Has.p1,idAt,Bool.and_assoc],fitsB,fitB,k0,k1,o0,o1,show hasN 1 = false from rfl,show hasX 1 = true from rfl]
  simp
 ·match rest,hl with
  | [p,q],_ =>
  have k0 : p.hd.kind = 5 := of_decide_eq_true (hf 0 (by decide) (by simp) (by decide))
  have o0 : (id3 p).ok = true := ok p (by simp) (.inr k0)
  have k1 : q.hd.kind = 5 := of_decide_eq_true (hf 1 (by decide) (by simp) (by decide))
  have o1 : (id3 q).ok = true := ok q (by simp) (.inr k1)
  show wholeB 2 (id3 p) (id3 q) I3.zero (.mk {} []) 0 = _
  rw [show flds 2 = [.f,.t] from rfl]
  simp only [wholeB,show idsB 2 (id3 p) (id3 q) I3.zero = ((id3 p).ok && (id3 q).ok && true) from by simp [idsB,hasK,Has.all,Has.p2,Has.p1,idAt,Bool.and_assoc],fitsB,fitB,k0,k1,o0,o1,show hasN 2 = false from rfl,show hasX 2 = false from rfl]
  simp
 ·match rest,hl with
  | [p,q],_ =>
  have k0 : p.hd.kind = 5 := of_decide_eq_true (hf 0 (by decide) (by simp) (by decide))
  have o0 : (id3 p).ok = true := ok p (by simp) (.inr k0)
  have k1 : q.hd.kind = 5 := of_decide_eq_true (hf 1 (by decide) (by simp) (by decide))
  have o1 : (id3 q).ok = true := ok q (by simp) (.inr k1)
  show wholeB 3 (id3 p) (id3 q) I3.zero (.mk {} []) 0 = _
  rw [show flds 3 = [.f,.t] from rfl]
  simp only [wholeB,show idsB 3 (id3 p) (id3 q) I3.zero = ((id3 p).ok && (id3 q).ok && true) from by simp [idsB,hasK,Has.all,Has.p2,Has.p1,idAt,Bool.and_assoc],fitsB,fitB,k0,k1,o0,o1,show hasN 3 = false from rfl,show hasX 3 = false from rfl]
  simp
 ·match rest,hl with
  | [p,q,u,v],_ =>
  have k0 : p.hd.kind = 5 := of_decide_eq_true (hf 0 (by decide) (by simp) (by decide))
  have o0 : (id3 p).ok = true := ok p (by simp) (.inr k0)
  have k1 : q.hd.kind = 5 := of_decide_eq_true (hf 1 (by decide) (by simp) (by decide))
  have o1 : (id3 q).ok = true := ok q (by simp) (.inr k1)
  have kn : u.hd.kind = 1 := (hk rfl (show (hasK 4).all.length < 4 by decide)).1
  show wholeB 4 (id3 p) (id3 q) I3.zero v u.hd.n = _
  rw [show flds 4 = [.f,.t,.n,.x] from rfl]
  simp only [wholeB,show idsB 4 (id3 p) (id3 q) I3.zero = ((id3 p).ok && (id3 q).ok && true) from by simp [idsB,hasK,Has.all,Has.p2,Has.p1,idAt,Bool.and_assoc],fitsB,fitB,k0,k1,o0,o1,kn,show hasN 4 = true from rfl,show hasX 4 = true from rfl]
  simp
 ·match rest,hl with
  | [p,q,u],_ =>
  have k0 : p.hd.kind = 5 := of_decide_eq_true (hf 0 (by decide) (by simp) (by decide))
  have o0 : (id3 p).ok = true := ok p (by simp) (.inr k0)
  have k1 : q.hd.kind = 5 := of_decide_eq_true (hf 1 (by decide) (by simp) (by decide))
  have o1 : (id3 q).ok = true := ok q (by simp) (.inr k1)
  have k2 : u.hd.kind = 4 := of_decide_eq_true (hf 2 (by decide) (by simp) (by decide))
  have o2 : (id3 u).ok = true := ok u (by simp) (.inl k2)
  show wholeB 5 (id3 p) (id3 q) (id3 u) (.mk {} []) 0 = _
  rw [show flds 5 = [.f,.t,.r] from rfl]
  simp only [wholeB,show idsB 5 (id3 p) (id3 q) (id3 u) = ((id3 p).ok && (id3 q).ok && (id3 u).ok && true) from by simp [idsB,hasK,Has.all,Has.p2,Has.p1,idAt,Bool.and_assoc],fitsB,fitB,k0,k1,k2,o0,o1,o2,show hasN 5 = false from rfl,show hasX 5 = false from rfl]
  simp
 ·match rest,hl with
  | [p,q,u],_ =>
  have k0 : p.hd.kind = 5 := of_decide_eq_true (hf 0 (by decide) (by simp) (by decide))
  have o0 : (id3 p).ok = true := ok p (by simp) (.inr k0)
  have k1 : q.hd.kind = 5 := of_decide_eq_true (hf 1 (by decide) (by simp) (by decide))
  have o1 : (id3 q).ok = true := ok q (by simp) (.inr k1)
  have k2 : u.hd.kind = 4 := of_decide_eq_true (hf 2 (by decide) (by simp) (by decide))
  have o2 : (id3 u).ok = true := ok u (by simp) (.inl k2)
  show wholeB 6 (id3 p) (id3 q) (id3 u) (.mk {} []) 0 = _
  rw [show flds 6 = [.f,.t,.r] from rfl]
  simp only [wholeB,show idsB 6 (id3 p) (id3 q) (id3 u) = ((id3 p).ok && (id3 q).ok && (id3 u).ok && true) from by simp [idsB,hasK,Has.all,Has.p2,Has.p1,idAt,Bool.and_assoc],fitsB,fitB,k0,k1,k2,o0,o1,o2,show hasN 6 = false from rfl,show hasX 6 = false from rfl]
  simp
 ·match rest,hl with
  | [p,q,u,v],_ =>
  have k0 : p.hd.kind = 5 := of_decide_eq_true (hf 0 (by decide) (by simp) (by decide))
  have o0 : (id3 p).ok = true := ok p (by simp) (.inr k0)
  have k1 : q.hd.kind = 5 := of_decide_eq_true (hf 1 (by decide) (by simp) (by decide))
  have o1 : (id3 q).ok = true := ok q (by simp) (.inr k1)
  have k2 : u.hd.kind = 4 := of_decide_eq_true (hf 2 (by decide) (by simp) (by decide))
  have o2 : (id3 u).ok = true := ok u (by simp) (.inl k2)
  show wholeB 7 (id3 p) (id3 q) (id3 u) v 0 = _
  rw [show flds 7 = [.f,.t,.r,.x] from rfl]
  simp only [wholeB,show idsB 7 (id3 p) (id3 q) (id3 u) = ((id3 p).ok && (id3 q).ok && (id3 u).ok && true) from by simp [idsB,hasK,Has.all,Has.p2,Has.p1,idAt,Bool.and_assoc],fitsB,fitB,k0,k1,k2,o0,o1,o2,show hasN 7 = false from rfl,show hasX 7 = true from rfl]
  simp
 ·match rest,hl with
  | [p,q,u],_ =>
  have k0 : p.hd.kind = 5 := of_decide_eq_true (hf 0 (by decide) (by simp) (by decide))
  have o0 : (id3 p).ok = true := ok p (by simp) (.inr k0)
  have k1 : q.hd.kind = 4 := of_decide_eq_true (hf 1 (by decide) (by simp) (by decide))
  have o1 : (id3 q).ok = true := ok q (by simp) (.inl k1)
  show wholeB 8 (id3 p) I3.zero (id3 q) u 0 = _
  rw [show flds 8 = [.f,.r,.x] from rfl]
  simp only [wholeB,show idsB 8 (id3 p) I3.zero (id3 q) = ((id3 p).ok && (id3 q).ok && true) from by simp [idsB,hasK,Has.all,Has.p2,Has.p1,idAt,Bool.and_assoc],fitsB,fitB,k0,k1,o0,o1,show hasN 8 = false from rfl,show hasX 8 = true from rfl]
  simp
 ·match rest,hl with
  | [p,q,u],_ =>
  have k0 : p.hd.kind = 5 := of_decide_eq_true (hf 0 (by decide) (by simp) (by decide))
  have o0 : (id3 p).ok = true := ok p (by simp) (.inr k0)
  have k1 : q.hd.kind = 4 := of_decide_eq_true (hf 1 (by decide) (by simp) (by decide))
  have o1 : (id3 q).ok = true := ok q (by simp) (.inl k1)
  show wholeB 9 I3.zero (id3 p) (id3 q) u 0 = _
  rw [show flds 9 = [.t,.r,.x] from rfl]
  simp only [wholeB,show idsB 9 I3.zero (id3 p) (id3 q) = ((id3 p).ok && (id3 q).ok && true) from by simp [idsB,hasK,Has.all,Has.p2,Has.p1,idAt,Bool.and_assoc],fitsB,fitB,k0,k1,o0,o1,show hasN 9 = false from rfl,show hasX 9 = true from rfl]
  simp
 ·match rest,hl with
  | [p,q,u],_ =>
  have k0 : p.hd.kind = 5 := of_decide_eq_true (hf 0 (by decide) (by simp) (by decide))
  have o0 : (id3 p).ok = true := ok p (by simp) (.inr k0)
  have k1 : q.hd.kind = 4 := of_decide_eq_true (hf 1 (by decide) (by simp) (by decide))
  have o1 : (id3 q).ok = true := ok q (by simp) (.inl k1)
  show wholeB 10 (id3 p) I3.zero (id3 q) u 0 = _
  rw [show flds 10 = [.f,.r,.x] from rfl]
  simp only [wholeB,show idsB 10 (id3 p) I3.zero (id3 q) = ((id3 p).ok && (id3 q).ok && true) from by simp [idsB,hasK,Has.all,Has.p2,Has.p1,idAt,Bool.and_assoc],fitsB,fitB,k0,k1,o0,o1,show hasN 10 = false from rfl,show hasX 10 = true from rfl]
  simp
 ·match rest,hl with
  | [p,q,u],_ =>
  have k0 : p.hd.kind = 5 := of_decide_eq_true (hf 0 (by decide) (by simp) (by decide))
  have o0 : (id3 p).ok = true := ok p (by simp) (.inr k0)
  have k1 : q.hd.kind = 4 := of_decide_eq_true (hf 1 (by decide) (by simp) (by decide))
  have o1 : (id3 q).ok = true := ok q (by simp) (.inl k1)
  show wholeB 11 (id3 p) I3.zero (id3 q) u 0 = _
  rw [show flds 11 = [.f,.r,.x] from rfl]
  simp only [wholeB,show idsB 11 (id3 p) I3.zero (id3 q) = ((id3 p).ok && (id3 q).ok && true) from by simp [idsB,hasK,Has.all,Has.p2,Has.p1,idAt,Bool.and_assoc],fitsB,fitB,k0,k1,o0,o1,show hasN 11 = false from rfl,show hasX 11 = true from rfl]
  simp
end Go.Proofs.Ytgadkiljnebicaa
