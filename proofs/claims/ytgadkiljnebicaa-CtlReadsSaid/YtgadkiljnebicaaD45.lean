/- Several texts in one. -/
import Derived.Test.YtgadkiljnebicaaD32
import Derived.Test.YtgadkiljnebicaaD31
import Derived.Test.YtgadkiljnebicaaD44
set_option linter.unusedVariables false
set_option linter.unusedSimpArgs false
namespace Go.Proofs.Ytgadkiljnebicaa
open Go.Lib (hid)
open Go.RowKit
set_option maxRecDepth 100000
attribute [local go_sem] run_store_complex
theorem results_cell2 {P : Program} {fn : Func} {p q : Tmp} {ty : TypeId} (h : fn.results = #[.cell p ty,.tmp q]) (tmps : Array Value) (w : World) (g : Nat) (t : TypeId) (cs : Array Value) (fr : Nat × Nat) (d : TypeDesc) (v : Value)
  (hp : tmps.getD p undef = .pointer (some ⟨g,0,none⟩)) (hq : tmps.getD q undef = v) (hg : w.heap[g]? = some (.cells cs t fr))
  (hu : P.underlying ty = some d) (hd : (match d with | .struct _ | .array _ _ => true | _ => false) = true) (hi : (P.info? ty).map (·.size) = some cs.size) :
  (results fn tmps).run P w = .ok (.tuple #[.agg cs,v]) w := by
 have hp' : tmps[p]?.getD undef = .pointer (some ⟨g,0,none⟩) := by simpa using hp
 have hq' : tmps[q]?.getD undef = v := by simpa using hq
 simp [results,h,hp',hq',asAddr,run_loadVar_row w g t ty cs fr d hg hu hd hi]
theorem good_mono : ∀ {r : Nat} {t : Tm},GoodT r t → GoodT (r + 1) t
 | 0,_,h => h.elim
 | r + 1,.mk _ _,h => ⟨h.1,fun t ht => good_mono (h.2 t ht)⟩
theorem sizeT_mem {t : Tm} : ∀ {l : List Tm},t ∈ l → sizeT t ≤ sizeTs l
 | a :: l,h => by
  simp only [sizeTs]
  rcases List.mem_cons.1 h with rfl | h
  ·omega
  ·have := sizeT_mem h
   omega
theorem part_good {h : Hd} {l : List Tm} (hg : GoodT 24 (.mk h l)) (hs : sizeT (.mk h l) ≤ 4096) {p : Tm} (hp : p ∈ l) : GoodT 24 p ∧ sizeT p ≤ 4096 := by
 refine ⟨good_mono (hg.2 p hp),?_⟩
 have := sizeT_mem hp
 simp only [sizeT] at hs
 omega
theorem dec_err {bs : List UInt8} {x : Int} (h : decodeP bs = .error x) : ¬ x = 0 := by
 unfold decodeP at h
 split at h
 ·cases h; decide
 ·cases ho : oneP bs ⟨0,0,[]⟩ with
  | error y =>
   rw [ho] at h
   obtain rfl := oneP_e72 ho
   cases h; decide
  | ok y =>
   obtain ⟨c,s⟩ := y
   rw [ho] at h
   simp only at h
   split at h
   ·cases h; decide
   ·cases hp : partP bs 24 s with
    | error e =>
     rw [hp] at h
     cases h
     exact part_err bs 24 s _ hp
    | ok z =>
     obtain ⟨t2,s2⟩ := z
     rw [hp] at h
     simp only at h
     split at h
     ·cases h; decide
     ·cases h
theorem slice1 (g o m cc : Nat) (hm : 0 < m) (hc : m ≤ cc) : ∃ ad : Addr,(1 < m → ad = ⟨g,o + 9,none⟩) ∧ ∀ w : World,(Instr.slice 29 (.slice (some ⟨g,o,none⟩) m cc) (some (.int .i64 1)) none none).run Try.prog w = .ok (.slice (some ad) (m - 1) (cc - 1)) w := by
 refine ⟨if cc - 1 = 0 then ⟨g,o,none⟩ else ⟨g,o + 9,none⟩,fun h1 => by rw [if_neg (by omega)],fun w => ?_⟩
 rw [run_slice_l (w := w) 29 (some ⟨g,o,none⟩) m cc (by kernel_rfl) .i64 1 (by omega) (by omega),show Try.prog.elem 29 = 31 from by kernel_rfl,Try.sizeOf31]
 by_cases hc1 : cc - 1 = 0
 ·have h2 : cc = 1 := by omega
  simp [Result.andThen,sliced,h2]
 ·have h2 : ¬ cc = 1 := by omega
  simp [Result.andThen,sliced,hc1,h2,Addr.add_lit]
theorem sig_kind {t : Tm} (h : ¬ t.hd.kind = 6) : sigB t = false := by
 unfold sigB
 split
 ·rfl
 ·simp [h]
theorem sig_nil {t : Tm} (h : t.l.length = 0) : sigB t = false := by
 have : t.l = [] := List.eq_nil_of_length_eq_zero h
 unfold sigB
 rw [this]
theorem sig_first {t a : Tm} {rest : List Tm} (h : t.l = a :: rest) (hk : ¬ (a.hd.kind = 1 ∧ 1 ≤ a.hd.n ∧ a.hd.n ≤ 11)) : sigB t = false := by
 unfold sigB
 rw [h]
 simp only [Bool.and_eq_false_iff]
 exact .inl (decide_eq_false fun e => hk e.2)
theorem sig_rest {t a : Tm} {rest : List Tm} (h : t.l = a :: rest) (h6 : t.hd.kind = 6) (hk : a.hd.kind = 1) (h1 : 1 ≤ a.hd.n) (h2 : a.hd.n ≤ 11) : sigB t = fitsB a.hd.n (flds a.hd.n) rest := by
 unfold sigB
 rw [h]
 simp [h6,hk,h1,h2]
theorem ctl_of {bs : List UInt8} {t : Tm} (hl : ¬ 1000 < bs.length) (h : decodeP bs = .ok t) : ctlP bs = if sigB t = true then .ok t else .error 230 := by
 unfold ctlP
 rw [if_neg hl,h]
end Go.Proofs.Ytgadkiljnebicaa
