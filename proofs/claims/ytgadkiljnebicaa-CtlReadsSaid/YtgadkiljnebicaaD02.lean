/- Several texts in one. -/
import Derived.Test.YtgadkiljnebicaaD01
import Derived.ChangeSlices
import Derived.RowKit
import Derived.Laws.OwnMore
import Derived.Deep.RegionHeld3
import Derived.Deep.RegionLaw
import Derived.Deep.DeepMust
import Derived.StillTailTactics
import Derived.Deep.DeepCutAuto
import Derived.Deep.QuietTactic
import Derived.BigQuiet
import Derived.ProofKit
import Derived.OpenShut
import Derived.ShutString
import Derived.ChangeOld
import Derived.SliceStrings
namespace Go.Proofs.Ytgadkiljnebicaa
open Go.Lib (hid)
open Go.RowKit
structure Hd where
 kind : Int := 0
 n : Int := 0
 re : Nat := 0
 im : Nat := 0
 s : ByteArray := ⟨#[]⟩
 node : Int := 0
 boot : Int := 0
 idn : Int := 0
 b : List UInt8 := []
inductive Tm where
 | mk (h : Hd) (l : List Tm)
structure St where
 i : Nat
 n : Nat
 names : List ByteArray
abbrev Rd (α : Type) := St → Except Int (α × St)
def oneP (bs : List UInt8) : Rd Nat := fun s => match bs[s.i]? with | some c => .ok (c.toNat,{ s with i := s.i + 1 }) | none => .error 72
def wideP (bs : List UInt8) : (rest k acc : Nat) → Rd Nat
 | 0,_,_ => fun _ => .error 73
 | rest + 1,k,acc => fun s =>
  match oneP bs s with
  | .error e => .error e
  | .ok (c,s') =>
   if k = 9 ∧ 1 < c then .error 73
   else if 128 ≤ c then wideP bs rest (k + 1) (acc + c % 128 * 2 ^ (7 * k)) s'
   else if c = 0 ∧ 0 < k then .error 73
   else .ok (acc + c % 128 * 2 ^ (7 * k),s')
def wideN (bs : List UInt8) : Rd Nat := wideP bs 10 0 0
def someP (bs : List UInt8) (n : Nat) : Rd (List UInt8) := fun s => if s.i + n ≤ bs.length then .ok ((bs.drop s.i).take n,{ s with i := s.i + n }) else .error 72
def wordOf (l : List UInt8) : Nat := l.foldl (fun u c => u * 256 + c.toNat) 0
def nameP (bs : List UInt8) : Rd ByteArray := fun s =>
 match wideN bs s with
 | .error e => .error e
 | .ok (k,s) =>
  if s.names.length < k then .error 73
  else if k < s.names.length then .ok (s.names.getD k ⟨#[]⟩,s)
  else match oneP bs s with
   | .error e => .error e
   | .ok (size,s) =>
    if size < 1 ∨ 32 < size then .error 73
    else match someP bs size s with
     | .error e => .error e
     | .ok (l,s) =>
      if nameB ⟨l.toArray⟩ = true ∧ pos s.names ⟨l.toArray⟩ = none then .ok (⟨l.toArray⟩,{ s with names := s.names ++ [⟨l.toArray⟩] })
      else .error 73
def zig (u : Nat) : Int := if u % 2 = 1 then -(u / 2 : Nat) - 1 else (u / 2 : Nat)
def inR (n : Int) : Bool := decide (-4611686018427387904 ≤ n ∧ n ≤ 4611686018427387903)
def okF (p : Nat) : Bool := decide (p % 9223372036854775808 < 9218868437227405312 ∧ p ≠ 9223372036854775808)
def idOk (node boot idn : Int) : Bool := decide (1 ≤ node ∧ node ≤ 64 ∧ 1 ≤ boot ∧ 1 ≤ idn)
def manyP (p : Rd Tm) : Nat → Rd (List Tm)
 | 0 => fun s => .ok ([],s)
 | k + 1 => fun s =>
  match p s with
  | .error e => .error e
  | .ok (t,s) =>
   match manyP p k s with
   | .error e => .error e
   | .ok (l,s) => .ok (t :: l,s)
def kindP (bs : List UInt8) (sub : Rd Tm) (c : Nat) : Rd Tm := fun s =>
 if c = 1 then
  match wideN bs s with
  | .error e => .error e
  | .ok (u,s) => if inR (zig u) = true then .ok (.mk { kind := 1,n := zig u } [],s) else .error 73
 else if c = 2 then
  match someP bs 16 s with
  | .error e => .error e
  | .ok (l,s) => if okF (wordOf (l.take 8)) = true ∧ okF (wordOf (l.drop 8)) = true then .ok (.mk { kind := 2,re := wordOf (l.take 8),im := wordOf (l.drop 8) } [],s) else .error 73
 else if c = 3 then
  match nameP bs s with
  | .error e => .error e
  | .ok (x,s) => .ok (.mk { kind := 3,s := x } [],s)
 else if c = 4 ∨ c = 5 then
  match oneP bs s with
  | .error e => .error e
  | .ok (node,s) =>
   match wideN bs s with
   | .error e => .error e
   | .ok (boot,s) =>
    if 4294967295 < boot then .error 73
    else match wideN bs s with
     | .error e => .error e
     | .ok (idn,s) => if idOk node boot idn = true then .ok (.mk { kind := c,node := node,boot := boot,idn := idn } [],s) else .error 73
 else if c = 6 ∨ c = 7 then
  match wideN bs s with
  | .error e => .error e
  | .ok (k,s) =>
   if 256 < k then .error 73
   else match manyP sub k s with
    | .error e => .error e
    | .ok (l,s) => .ok (.mk { kind := c } l,s)
 else if c = 8 then
  match wideN bs s with
  | .error e => .error e
  | .ok (k,s) =>
   if 4096 < s.n + k then .error 21
   else match someP bs k { s with n := s.n + k } with
    | .error e => .error e
    | .ok (l,s) => .ok (.mk { kind := 8,b := l } [],s)
 else .error 73
def partP (bs : List UInt8) : (rest : Nat) → Rd Tm
 | 0 => fun _ => .error 20
 | rest + 1 => fun s =>
  if 4096 < s.n + 1 then .error 21
  else match oneP bs { s with n := s.n + 1 } with
   | .error e => .error e
   | .ok (c,s) => kindP bs (partP bs rest) c s
def decodeP (bs : List UInt8) : Except Int Tm :=
 if 131072 < bs.length then .error 70
 else match oneP bs ⟨0,0,[]⟩ with
  | .error e => .error e
  | .ok (c,s) =>
   if c ≠ 69 then .error 71
   else match partP bs 24 s with
    | .error e => .error e
    | .ok (t,s) => if s.i < bs.length then .error 74 else .ok t
example : decodeP [69,1,128,0] = .error 73 := by rfl
example : decodeP [69,7,1] = .error 72 := by rfl
example : (match decodeP [69,1,1] with | .ok (.mk h []) => h.n | _ => 0) = -1 := by rfl
end Go.Proofs.Ytgadkiljnebicaa
namespace Go.Proofs.Ytgadkiljnebicaa
open Go.Lib (hid)
open Go.RowKit
set_option maxRecDepth 100000
theorem getD_at (s : ByteArray) {k : Nat} (h : k < s.size) : s.data.toList.getD k 0 = s.data[k] := by simp [List.getD,h]
theorem isEmpty_false {s : ByteArray} (h : ¬ s.size = 0) : s.toList.isEmpty = false := by
  rw [Lib.toList_data]
  cases e : s.data.toList with
  | nil => exact absurd (by rw [Lib.size_eq,e]; rfl) h
  | cons a l => rfl
theorem toList_nil {s : ByteArray} (h : s.size = 0) : s.toList = [] := by
  rw [Lib.toList_data]
  exact List.eq_nil_of_length_eq_zero (by rw [← Lib.size_eq]; exact h)
def rightRel (s : ByteArray) (r i : Value) : Prop := ∃ k : Nat,k ≤ s.size ∧ i = .int .i64 k ∧ r = .bool false ∧ okTo s k
set_option maxHeartbeats 1000000 in
theorem right_any (s : ByteArray) (w : World) (hs : s.size ≤ maxLen) :
    Calls Try.prog 85 #[.string s] w (RB w (.bool (nameB s))) := by
  unfold maxLen at hs
  by_cases h0 : s.size = 0
  · have hl := toList_nil h0
    go_enter Try.func85,Try.ntmps85
    go_wp2
    go_ret
    exact ⟨ret_bool (nameB_empty h0).symm,Below.refl _ _⟩
  · have hpos : 0 < s.size := by omega
    have hl := isEmpty_false h0
    by_cases h32 : 32 < s.size
    · go_enter Try.func85,Try.ntmps85
      go_wp2
      go_ret
      exact ⟨ret_bool (nameB_long h32).symm,Below.refl _ _⟩
    · have kc := Lib.run_convert_string_bytes (P := Try.prog) w 9 22 5 s Try.underlying9 Try.underlying22 Try.underlying5
      have hcell := Lib.bytesWorld_cell w 5 s
      have HB := hid (below_bytesWorld w 5 s)
      by_cases h1 : small (s.data.toList.getD 0 0).toNat = true
      · have HS := hid h1
        rw [getD_at s hpos] at h1
        simp [small] at h1
        have h1a : 97 ≤ ((s[0]'hpos).toNat : Int) := by have := h1.1; show 97 ≤ ((s.data[0]'hpos).toNat : Int); omega
        have h1b : ((s[0]'hpos).toNat : Int) ≤ 122 := by have := h1.2; show ((s.data[0]'hpos).toNat : Int) ≤ 122; omega
        clear h1
        go_enter Try.func85,Try.ntmps85
        go_wp2
        go_loop [2,4,25] (fun r _ i => rightRel s r i) (fun _ _ i => s.size - (intOf i).toNat)
        case atStart => exact ⟨0,Nat.zero_le _,rfl,rfl,okTo_zero s⟩
        case round =>
          obtain ⟨k,hk,rfl,rfl,hall⟩ := hrel
          have HA := hid hall
          clear hall
          by_cases hlt : k < s.size
          · have hc := hcell k hlt
            have HG := hid (getD_at s hlt)
            clear hcell
            go_wp2
            all_goals
              first
              | (go_ret
                 exact ⟨ret_bool (nameB_bad hlt (by rw [HG.out]; exact okb_not (by omega) (by omega) (by omega) (by simpa using ‹(((s.data[k]'hlt).toNat : Int) == 95) = false›))).symm,HB.out⟩)
              | (go_round
                 case rel => exact ⟨k + 1,by omega,by go_num,rfl,okTo_succ HA.out (by rw [HG.out]; first | exact okb_of (.inl ⟨by omega,by omega⟩) | exact okb_of (.inr (.inl ⟨by omega,by omega⟩)) | exact okb_of (.inr (.inr (.inl ⟨by omega,by omega⟩))) | exact okb_of (.inr (.inr (.inr (by simpa using ‹(((s.data[k]'hlt).toNat : Int) == 95) = true›)))))⟩
                 case measure => simp [intOf]; omega)
          · go_wp2
            go_ret
            exact ⟨ret_bool (nameB_true hpos (by omega) HS.out (by obtain rfl : k = s.size := by omega
                                                                   exact HA.out)).symm,HB.out⟩
      · have h1' : small (s.data.toList.getD 0 0).toNat = false := by simpa using h1
        have HS := hid h1'
        rw [getD_at s hpos] at h1
        simp [small] at h1
        clear h1' hcell kc
        have h1' : 97 ≤ ((s[0]'hpos).toNat : Int) → 122 < ((s[0]'hpos).toNat : Int) := fun h => by
          have h3 : 97 ≤ ((s.data[0]'hpos).toNat : Int) := h
          show 122 < ((s.data[0]'hpos).toNat : Int)
          have := h1 (by omega)
          omega
        by_cases hlow : 97 ≤ ((s[0]'hpos).toNat : Int)
        · have h2 := h1' hlow
          clear h1 h1'
          go_enter Try.func85,Try.ntmps85
          go_wp2
          go_ret
          exact ⟨ret_bool (nameB_first HS.out).symm,Below.refl _ _⟩
        · clear h1 h1'
          go_enter Try.func85,Try.ntmps85
          go_wp2
          go_ret
          exact ⟨ret_bool (nameB_first HS.out).symm,Below.refl _ _⟩
end Go.Proofs.Ytgadkiljnebicaa
namespace Go.Proofs.Ytgadkiljnebicaa
open Go.Lib (hid)
open Go.RowKit Go.WideShapes Go.ChangeShapes
def Sl (W : World) (v : Value) (xs : List Value) : Prop :=
 ∃ a c,v = .slice a xs.length c ∧ xs.length ≤ 9223372036854775807 ∧ (0 < xs.length → ∃ b off,a = some ⟨b,off,none⟩ ∧ ∀ j,(h : j < xs.length) → W.cell? ⟨b,off + j,none⟩ = some xs[j])
theorem Sl.nil (W : World) : Sl W (.slice none 0 0) [] := ⟨none,0,rfl,by simp,fun h => absurd h (by simp)⟩
theorem Sl.same {W W' : World} {v : Value} {l : List Value} (h : Sl W v l) (hs : ∀ b,v.ownBlock = some b → b < W.heap.size → W'.heap[b]? = W.heap[b]?) : Sl W' v l := by
 obtain ⟨a,c,rfl,hm,hc⟩ := h
 refine ⟨a,c,rfl,hm,fun hp => ?_⟩
 obtain ⟨b,off,rfl,hcell⟩ := hc hp
 refine ⟨b,off,rfl,fun j hj => ?_⟩
 rw [← hcell j hj]
 exact World.cell?_of_block (w := W) (hs b rfl (cell_lt (hcell j hj)))
theorem Sl.below {W W' : World} {v : Value} {l : List Value} (h : Sl W v l) (hb : Below W.heap.size W W') : Sl W' v l :=
 h.same fun b _ hlt => hb.block b hlt
theorem Sl.alloc {W : World} {v : Value} {l : List Value} (h : Sl W v l) (o : Obj) : Sl (W.alloc o) v l := h.below ((Below.refl _ _).alloc (Nat.le_refl _) o)
theorem Sl.src {P : Program} {W : World} {T e : TypeId} {v : Value} {l : List Value} (h : Sl W v l) (ht : P.underlying T = some (.slice e)) (h1 : ∀ u ∈ l,u.oneCell' = true) : Src P 1 T v l.length l W := by
 obtain ⟨a,c,rfl,hm,hc⟩ := h
 by_cases h0 : 0 < l.length
 ·obtain ⟨b,off,rfl,hcell⟩ := hc h0
  refine Src.ofSlice _ ht _ _ _ _ (by simp) (fun j u hj => ?_) h1
  obtain ⟨hjl,rfl⟩ := List.getElem?_eq_some_iff.1 hj
  have := hcell j hjl
  simpa [Addr.add_lit] using this
 ·have : l = [] := List.eq_nil_of_length_eq_zero (by omega)
  subst this
  cases a with
  | none => exact Src.ofNil _ ht _
  | some a => exact Src.ofSlice _ ht _ _ _ _ (by simp) (fun j u hj => by simp at hj) (by simp)
theorem Sl.of_owns {W : World} {base n : Nat} {e : TypeId} {v : Value} {l : List Value} (h : W.ownsRow base e 1 v n l) (hm : l.length ≤ 9223372036854775807) : Sl W v l := by
 have hn : l.length = n := by have := h.1; simpa using this
 subst hn
 rcases h.2 with ⟨rfl,h0⟩ | ⟨g,cap,cur,rfl,_,hg,hnc,_,hcs,htake⟩
 ·exact ⟨none,0,by rw [h0],hm,fun hp => by omega⟩
 ·refine ⟨_,cap,rfl,hm,fun _ => ⟨g,0,rfl,fun j hj => ?_⟩⟩
  have := h.cells (g := g) rfl j l[j] (by simp [hj])
  simpa [Addr.add_lit] using this
theorem owns_mono {w : World} {base base' : Nat} {e : TypeId} {size : Nat} {v : Value} {n : Nat} {xs : List Value} (h : w.ownsRow base e size v n xs) (hb : base' ≤ base) : w.ownsRow base' e size v n xs := by
 obtain ⟨h1,h2⟩ := h
 exact ⟨h1,h2.imp id fun ⟨g,cap,cur,hv,hg,r⟩ => ⟨g,cap,cur,hv,Nat.le_trans hb hg,r⟩⟩
theorem sl_open {H : Type} {enc : TypeId × Value → H} {P : Program} {w : World} {T e : TypeId} {k : IntKind} (ht : P.underlying T = some (.slice e)) (he : P.underlying e = some (.int k)) (hc1 : P.cellsOf e = 1)
  {x : Option Addr} {len cap : Nat} {d : DataW H} {ps : List MemPlace} (h : DataW.Trod enc P w 0 (fun _ => true) true T (.slice x len cap) d ps) :
  ∃ zs : List Int,zs.length = len ∧ len ≤ maxLen ∧ Sl w (.slice x len cap) (zs.map (Value.int k)) ∧ (∀ n ∈ zs,(Lit.int k n).wf = true) ∧ ((len = 0) ∨ ∃ a b,d = .slice a b ∧ a.length = len) := by
 obtain ⟨fuel,hf⟩ := h
 have e : (Value.slice x len cap).cells.toList = [.slice x len cap] := rfl
 rw [e] at hf
 rcases open_ints ht he hc1 hf with ⟨hcs,hx⟩ | ⟨a,len',cap',zs,hcs,_,hl,hm,hz,hx,hcell,hwz⟩
 ·cases hcs
  exact ⟨[],rfl,Nat.zero_le _,Sl.nil _,by simp,.inl rfl⟩
 ·cases hcs
  simp only [if_true] at hz
  have hml : maxLen ≤ 9223372036854775807 := by decide
  have hlz : (zs.take len).length = len := by simp; omega
  refine ⟨zs.take len,hlz,by omega,⟨some a,cap,by simp; omega,by simp; omega,fun h0 => ?_⟩,fun n hn => hwz n (List.mem_of_mem_take hn),.inr ?_⟩
  ·simp at h0
   have h1 := hcell 0 (by omega)
   have hs0 := World.cell?_spot h1
   obtain ⟨b,off,spot⟩ := a
   have : spot = none := by cases spot <;> simp_all [Addr.add]
   subst this
   refine ⟨b,off,rfl,fun j hj => ?_⟩
   have hj2 : j < len := by simp at hj; omega
   have hc := hcell j (by omega)
   rw [← add_plain,hc]
   simp [List.getD,List.getElem?_eq_getElem (show j < zs.length by omega)]
  ·obtain ⟨hx1,_⟩ := Prod.mk.inj hx
   exact ⟨_,_,hx1,by simp [lits]; omega⟩
end Go.Proofs.Ytgadkiljnebicaa
namespace Go.Proofs.Ytgadkiljnebicaa
open Go.Lib (hid)
open Go.RowKit
theorem step_app {P : Program} {ops : Array Oper} {o : Oper} {a : Act} {w : World} {K : Act → World → Prop} {Q : Exit → Act → World → Prop} {E : Prop} (hgd : o.guard = none) (s x : Operand) (t tx : TypeId)
  (ho : o.op = .call { callee := .builtin .append,args := #[s,x],argTypes := #[t,tx] })
  (base : Nat) (e : TypeId) (i : TypeInfo) (z : Value) (size bytes : Nat) (ht : P.underlying t = some (.slice e)) (hi : P.info? e = some i) (hz : i.zero = some z)
  (hsize : i.size = size) (hby : i.bytes = bytes) (hzs : z.cells.size = size) (hsz : 0 < size)
  (v : Value) (n : Nat) (xs : List Value) (hs : a.eval s = v) (hown : w.ownsRow base e size v n xs) (u : Value) (m : Nat) (news : List Value) (hx : a.eval x = u) (hsrc : Src P size tx u m news w)
  (h63 : n + m ≤ maxLen) (hbytes : (n + m) * bytes ≤ 140737488355328) (hbase : base ≤ w.heap.size)
  (h : ∀ (a' : Option Addr) (c' : Nat) w',w'.ownsRow base e size (.slice a' (n + m) c') (n + m) (xs ++ news) → w.grownBy w' v.ownBlock → ((Value.slice a' (n + m) c').ownBlock = v.ownBlock ∨ (Value.slice a' (n + m) c').ownBlock = some w.heap.size) → K (a.put o.dst (.slice a' (n + m) c')) w') :
  if Region.wanted o (yielded ops a.tmps) = true then Oper.wp P o a w K Q else E := by
 have hw : Region.wanted o (yielded ops a.tmps) = true := by simp [Region.wanted,hgd]
 rw [if_pos hw]
 obtain ⟨v',w',hr,h2,h3,_,h5⟩ := run_append_own_src (P := P) w base t tx o.type e i z size bytes ht hi hz hsize hby hzs hsz v n xs hown u m news hsrc h63 hbytes hbase
 obtain ⟨a',c',rfl⟩ : ∃ a' c',v' = .slice a' (n + m) c' := by
  rcases h2.2 with ⟨rfl,h0⟩ | ⟨g,cap,cur,rfl,_⟩
  ·exact ⟨none,0,by rw [h0]⟩
  ·exact ⟨_,_,rfl⟩
 unfold Oper.wp execOp
 simp only [ho,resolve,invoke,builtin,Sem.run_bind,Sem.run_pure,Result.andThen_ok,List.map_toArray,List.map_cons,List.map_nil,hs,hx,hr]
 exact h a' c' w' h2 h3 h5
end Go.Proofs.Ytgadkiljnebicaa
namespace Go.Proofs.Ytgadkiljnebicaa
open Go.ChangeShapes Go.WideShapes Go.ChangeAt Go.RowKit
theorem trodAll_below {H : Type} {enc : TypeId × Value → H} {P : Program} (hl : laidOutB P = true) {W W' : World} (hb : Below W.heap.size W W') : ∀ (ts : List TypeId) (vs : List Value) (ds : List (DataW H)) (ps : List MemPlace),
  (∀ t ∈ ts,P.readableRec t = true ∧ t < P.types.size) → DataW.TrodAll enc P W 0 (fun _ => true) true ts vs ds ps → DataW.TrodAll enc P W' 0 (fun b => decide (b < W.heap.size)) true ts vs ds ps
 | [],[],[],ps,_,h => h
 | t :: ts,v :: vs,d :: ds,ps,hr,h => by
  obtain ⟨p,q,h1,h2,rfl⟩ := h
  have hlt : ∀ x ∈ p,x.block < W.heap.size := by obtain ⟨m,hm⟩ := h1; exact DataW.trod_lt m _ _ _ hm
  exact ⟨p,q,Below.trod hl (hr t (by simp)).1 (hr t (by simp)).2 h1 hb hlt,trodAll_below hl hb ts vs ds q (fun t' ht => hr t' (List.mem_cons_of_mem _ ht)) h2,rfl⟩
 | [],[],_ :: _,_,_,h => by simp [DataW.TrodAll] at h
 | [],_ :: _,_,_,_,h => by simp [DataW.TrodAll] at h
 | _ :: _,[],_,_,_,h => by simp [DataW.TrodAll] at h
 | _ :: _,_ :: _,[],_,_,h => by simp [DataW.TrodAll] at h
theorem post_law {H : Type} {enc : TypeId × Value → H} {P : Program} {f : Func} {s : ChangeSpec} {W W' : World} {args : Array Value} {ds : List (DataW H)} {before : List MemPlace} (T : TypeId) (hl : laidOutB P = true)
  (hr : ∀ t ∈ f.params.toList,P.readableRec t = true ∧ t < P.types.size) (hv : s.vars = []) (hW : DataW.Whole enc P f.params.toList s.vars false W args.toList ds [] before)
  (hfn : s.fn H (ds ++ []) = { results := [.lit (.bool true)],args := ds }) (hres : f.resultTypes.toList = [T]) (hT : P.underlying T = some .bool) (hsz : f.resultTypes.size = 1) (hb : Below W.heap.size W W') :
  s.post enc P f false true false false W args (.bool true) W' := by
 obtain ⟨p,q,hA,hV,hpq,hfz,hnd⟩ := hW
 refine ⟨ds,[],before,[],p,[],⟨p,q,hA,hV,hpq,hfz,hnd⟩,?_,?_,?_,hb.frame _,fun h => by cases h⟩
 ·rw [hfn,hres,hsz]
  exact trodAll_mk1 (shut_bool hT _)
 ·rw [hfn]
  exact trodAll_below hl hb _ _ _ _ hr hA
 ·rw [hfn,hv]
  rfl
end Go.Proofs.Ytgadkiljnebicaa
