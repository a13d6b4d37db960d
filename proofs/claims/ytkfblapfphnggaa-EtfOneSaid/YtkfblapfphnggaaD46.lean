/- Several texts in one. -/
import Derived.Test.YtkfblapfphnggaaD11
import Derived.Test.YtkfblapfphnggaaD07
import Derived.Test.YtkfblapfphnggaaD21
import Derived.Test.YtkfblapfphnggaaD10
import Derived.Test.YtkfblapfphnggaaD23
import Derived.Test.YtkfblapfphnggaaD03
/- What is written of what was read is what was read: plain Lean, no program here. -/
namespace Go.Proofs.Ytkfblapfphnggaa
open Go.RowKit
set_option maxRecDepth 100000

/-- the bytes from i to j -/
def span (bs : List UInt8) (i j : Nat) : List UInt8 := (bs.drop i).take (j - i)
theorem span_self (bs : List UInt8) (i : Nat) : span bs i i = [] := by simp [span]
theorem span_cons {bs : List UInt8} {i j : Nat} (hi : i < bs.length) (hj : i < j) : span bs i j = bs[i] :: span bs (i + 1) j := by
  unfold span
  rw [List.drop_eq_getElem_cons hi, show j - i = (j - (i + 1)) + 1 by omega, List.take_succ_cons]
theorem span_app {bs : List UInt8} {i j k : Nat} (h1 : i ≤ j) (h2 : j ≤ k) : span bs i j ++ span bs j k = span bs i k := by
  unfold span
  have e : bs.drop j = (bs.drop i).drop (j - i) := by rw [List.drop_drop]; congr 1; omega
  rw [e, show k - i = (j - i) + (k - j) by omega, List.take_add]
theorem span_one {bs : List UInt8} {i : Nat} (hi : i < bs.length) : span bs i (i + 1) = [bs[i]] := by rw [span_cons hi (by omega), span_self]
theorem one_span {bs : List UInt8} {s s' : St} {c : Nat} (h : oneP bs s = .ok (c, s')) : s' = { s with i := s.i + 1 } ∧ c < 256 ∧ s.i < bs.length ∧ span bs s.i s'.i = [UInt8.ofNat c] := by
  obtain ⟨h1, h2, h3⟩ := oneP_ok h
  refine ⟨h2, h1, h3, ?_⟩
  unfold oneP at h
  rw [List.getElem?_eq_getElem h3] at h
  cases h
  rw [span_one h3]
  simp
theorem some_span {bs l : List UInt8} {s s' : St} {n : Nat} (h : someP bs n s = .ok (l, s')) : s' = { s with i := s.i + n } ∧ l.length = n ∧ s.i + n ≤ bs.length ∧ span bs s.i s'.i = l := by
  obtain ⟨h1, h2, h3⟩ := some_st h
  refine ⟨h1, h2, h3, ?_⟩
  unfold someP at h
  rw [if_pos h3] at h
  cases h
  unfold span
  simp only
  rw [Nat.add_sub_cancel_left]
theorem byte_hi {c : Nat} (h : 128 ≤ c) (h2 : c < 256) : c % 128 + 128 = c := by omega
theorem wideP_span {bs : List UInt8} : ∀ (rest k acc : Nat) (s s' : St) (n : Nat), wideP bs rest k acc s = .ok (n, s') →
    ∃ m, n = acc + m * 2 ^ (7 * k) ∧ span bs s.i s'.i = viB rest m ∧ (0 < k → 0 < m) ∧ s.i < s'.i ∧ s'.i ≤ bs.length ∧ s'.names = s.names ∧ s'.n = s.n
  | 0, _, _, _, _, _, h => by cases h
  | rest + 1, k, acc, s, s', n, h => by
    simp only [wideP] at h
    cases ho : oneP bs s with
    | error e => rw [ho] at h; cases h
    | ok y =>
      obtain ⟨c, s1⟩ := y
      obtain ⟨e1, hc, hi, hs⟩ := one_span ho
      rw [ho] at h
      simp only at h
      split at h
      · cases h
      · split at h
        · rename_i h128
          obtain ⟨m, hn, hsp, hm, hlt, hle, hnm, hnn⟩ := wideP_span rest (k + 1) _ s1 s' n h
          have hm0 := hm (by omega)
          have hi1 : s1.i = s.i + 1 := by rw [e1]
          refine ⟨c % 128 + m * 128, ?_, ?_, fun _ => by omega, by omega, hle, by rw [hnm, e1], by rw [hnn, e1]⟩
          · rw [hn, Nat.mul_add 7 k 1, Nat.pow_add, Nat.add_mul, Nat.mul_assoc m 128, Nat.add_assoc]
            congr 2
            rw [Nat.mul_comm (2 ^ (7 * k)) (2 ^ (7 * 1))]
          · rw [← span_app (j := s1.i) (by omega) (by omega), hs, hsp, viB, if_pos (by omega), show (c % 128 + m * 128) % 128 = c % 128 by omega, show (c % 128 + m * 128) / 128 = m by omega, byte_hi h128 hc]
            rfl
        · split at h
          · cases h
          · rename_i h128 h0
            cases h
            refine ⟨c, by rw [Nat.mod_eq_of_lt (by omega)], ?_, fun hk => by omega, by rw [e1]; simp, by rw [e1]; exact hi, by rw [e1], by rw [e1]⟩
            rw [hs, viB, if_neg (by omega)]
theorem wide_span {bs : List UInt8} {s s' : St} {n : Nat} (h : wideN bs s = .ok (n, s')) : span bs s.i s'.i = wideB n ∧ s.i < s'.i ∧ s'.i ≤ bs.length ∧ s'.names = s.names := by
  obtain ⟨m, hn, hsp, _, h1, h2, h3, _⟩ := wideP_span 10 0 0 s s' n h
  have e : n = m := by rw [hn]; simp
  subst e
  exact ⟨hsp, h1, h2, h3⟩
theorem bits_word {l : List UInt8} (hl : l.length = 8) : bitsB (wordOf l) = l := by
  match l, hl with
  | [b0, b1, b2, b3, b4, b5, b6, b7], _ =>
    have h0 := b0.toNat_lt; have h1 := b1.toNat_lt; have h2 := b2.toNat_lt; have h3 := b3.toNat_lt
    have h4 := b4.toNat_lt; have h5 := b5.toNat_lt; have h6 := b6.toNat_lt; have h7 := b7.toNat_lt
    have e : wordOf [b0, b1, b2, b3, b4, b5, b6, b7] = b0.toNat * 72057594037927936 + b1.toNat * 281474976710656 + b2.toNat * 1099511627776 + b3.toNat * 4294967296 + b4.toNat * 16777216 + b5.toNat * 65536 + b6.toNat * 256 + b7.toNat := by
      simp only [wordOf, List.foldl]
      omega
    have key : ∀ (x : Nat) (b : UInt8), x % 256 = b.toNat → UInt8.ofNat x = b := fun x b h => by
      apply UInt8.toNat_inj.1
      simp [h]
    unfold bitsB
    rw [e]
    simp only [List.cons.injEq]
    refine ⟨key _ _ ?_, key _ _ ?_, key _ _ ?_, key _ _ ?_, key _ _ ?_, key _ _ ?_, key _ _ ?_, key _ _ ?_, trivial⟩ <;> omega
theorem zag_zig (u : Nat) : zag (zig u) = u := by
  rcases Nat.mod_two_eq_zero_or_one u with h | h
  · have e : zig u = ((u / 2 : Nat) : Int) := by unfold zig; rw [if_neg (by omega)]
    rw [e]
    unfold zag
    rw [if_pos (by omega)]
    omega
  · have e : zig u = -((u / 2 : Nat) : Int) - 1 := by unfold zig; rw [if_pos h]
    rw [e]
    unfold zag
    rw [if_neg (by omega)]
    omega
/-- a part was read, and is written so -/
structure Wrote (bs : List UInt8) (s : St) (t : Tm) (s' : St) : Prop where
  le : s.i ≤ s'.i
  hi : s'.i ≤ bs.length
  same : span bs s.i s'.i = (encT t s.names).1
  nms : (encT t s.names).2 = s'.names
  nd : s'.names.Nodup
theorem name_span {bs : List UInt8} {s s' : St} {y : ByteArray} (hnd : s.names.Nodup) (h : nameP bs s = .ok (y, s')) : span bs s.i s'.i = (atomB s.names y).1 ∧ (atomB s.names y).2 = s'.names ∧ s.i ≤ s'.i ∧ s'.i ≤ bs.length ∧ s'.names.Nodup := by
  unfold nameP at h
  cases hw : wideN bs s with
  | error e => rw [hw] at h; cases h
  | ok z =>
    obtain ⟨k, s1⟩ := z
    obtain ⟨w1, w2, w3, w4⟩ := wide_span hw
    rw [hw] at h
    simp only at h
    split at h
    · cases h
    · split at h
      · rename_i hk
        cases h
        have e : s'.names.getD k ⟨#[]⟩ = s'.names[k] := by simp [List.getD, hk]
        have hp : pos s.names s'.names[k] = some k := by
          have := pos_at (l := s'.names) (by rw [w4]; exact hnd) hk
          generalize s'.names[k] = z at this ⊢
          rw [w4] at this
          exact this
        rw [e]
        unfold atomB
        rw [hp]
        exact ⟨w1, w4.symm, by omega, w3, by rw [w4]; exact hnd⟩
      · rename_i hk1 hk2
        have hk : k = s.names.length := by rw [w4] at hk1 hk2; omega
        cases ho : oneP bs s1 with
        | error e => rw [ho] at h; cases h
        | ok z =>
          obtain ⟨size, s2⟩ := z
          obtain ⟨o1, o2, o3, o4⟩ := one_span ho
          rw [ho] at h
          simp only at h
          split at h
          · cases h
          · cases hs : someP bs size s2 with
            | error e => rw [hs] at h; cases h
            | ok z =>
              obtain ⟨l, s3⟩ := z
              obtain ⟨p1, p2, p3, p4⟩ := some_span hs
              rw [hs] at h
              simp only at h
              split at h
              · rename_i hb
                cases h
                have n2 : s2.names = s.names := by rw [o1]; exact w4
                have n3 : s3.names = s.names := by rw [p1]; exact n2
                have hp := hb.2
                rw [n3] at hp
                have i2 : s2.i = s1.i + 1 := by rw [o1]
                have i3 : s3.i = s2.i + size := by rw [p1]
                unfold atomB
                rw [hp]
                refine ⟨?_, by rw [n3], by show s.i ≤ s3.i; omega, by show s3.i ≤ bs.length; omega, ?_⟩
                · show span bs s.i s3.i = wideB s.names.length ++ (UInt8.ofNat l.toArray.size :: l)
                  rw [← span_app (j := s1.i) (by omega) (by omega), ← span_app (i := s1.i) (j := s2.i) (by omega) (by omega), w1, o4, p4, hk]
                  simp [p2]
                · show (s3.names ++ [(⟨l.toArray⟩ : ByteArray)]).Nodup
                  rw [n3]
                  exact nodup_snoc hnd hp
              · cases h
theorem many_span {bs : List UInt8} {sub : Rd Tm} (hsub : ∀ s t s', s.names.Nodup → s.i ≤ bs.length → sub s = .ok (t, s') → Wrote bs s t s') : ∀ (k : Nat) (s : St) (l : List Tm) (s' : St), s.names.Nodup → s.i ≤ bs.length → manyP sub k s = .ok (l, s') →
    l.length = k ∧ span bs s.i s'.i = (encTs l s.names).1 ∧ (encTs l s.names).2 = s'.names ∧ s.i ≤ s'.i ∧ s'.i ≤ bs.length ∧ s'.names.Nodup
  | 0, s, l, s', hnd, hi, h => by
    cases h
    exact ⟨rfl, by simp [span_self, encTs], rfl, Nat.le_refl _, hi, hnd⟩
  | k + 1, s, l, s', hnd, hi, h => by
    simp only [manyP] at h
    cases hs : sub s with
    | error e => rw [hs] at h; cases h
    | ok z =>
      obtain ⟨t, s1⟩ := z
      have r := hsub s t s1 hnd hi hs
      rw [hs] at h
      simp only at h
      cases hm : manyP sub k s1 with
      | error e => rw [hm] at h; cases h
      | ok z =>
        obtain ⟨l2, s2⟩ := z
        rw [hm] at h
        cases h
        obtain ⟨a1, a2, a3, a4, a5, a6⟩ := many_span hsub k s1 l2 s' r.nd r.hi hm
        refine ⟨by simp [a1], ?_, ?_, Nat.le_trans r.le a4, a5, a6⟩
        · rw [← span_app r.le a4, r.same, a2, ← r.nms]
          rfl
        · rw [← a3, ← r.nms]
          rfl
end Go.Proofs.Ytkfblapfphnggaa
/- What is written of what was read is what was read: parts, whole texts. -/
namespace Go.Proofs.Ytkfblapfphnggaa
open Go.RowKit
set_option maxRecDepth 100000

/-- a part's own bytes behind its kind -/
structure Kind (bs : List UInt8) (c : Nat) (s : St) (t : Tm) (s' : St) : Prop where
  le : s.i ≤ s'.i
  hi : s'.i ≤ bs.length
  same : UInt8.ofNat c :: span bs s.i s'.i = (encT t s.names).1
  nms : (encT t s.names).2 = s'.names
  nd : s'.names.Nodup
theorem kind_span {bs : List UInt8} {sub : Rd Tm} (hsub : ∀ s t s', s.names.Nodup → s.i ≤ bs.length → sub s = .ok (t, s') → Wrote bs s t s') {c : Nat} {s s' : St} {t : Tm} (hnd : s.names.Nodup) (_ : s.i ≤ bs.length) (h : kindP bs sub c s = .ok (t, s')) : Kind bs c s t s' := by
  unfold kindP at h
  by_cases c1 : c = 1
  · subst c1
    rw [if_pos rfl] at h
    cases hw : wideN bs s with
    | error e => rw [hw] at h; cases h
    | ok z =>
      obtain ⟨u, s1⟩ := z
      obtain ⟨w1, w2, w3, w4⟩ := wide_span hw
      rw [hw] at h
      simp only at h
      split at h
      · cases h
        refine ⟨by omega, w3, ?_, by simp [encT, headB, encTs, w4], by rw [w4]; exact hnd⟩
        rw [w1]
        simp [encT, headB, encTs, zag_zig]
      · cases h
  rw [if_neg c1] at h
  by_cases c2 : c = 2
  · subst c2
    rw [if_pos rfl] at h
    cases hs : someP bs 16 s with
    | error e => rw [hs] at h; cases h
    | ok z =>
      obtain ⟨l, s1⟩ := z
      obtain ⟨p1, p2, p3, p4⟩ := some_span hs
      rw [hs] at h
      simp only at h
      split at h
      · cases h
        have n1 : s'.names = s.names := by rw [p1]
        have i1 : s'.i = s.i + 16 := by rw [p1]
        refine ⟨by omega, by omega, ?_, by simp [encT, headB, encTs, n1], by rw [n1]; exact hnd⟩
        rw [p4]
        have e1 := bits_word (l := l.take 8) (by simp; omega)
        have e2 := bits_word (l := l.drop 8) (by simp; omega)
        simp [encT, headB, encTs, e1, e2]
      · cases h
  rw [if_neg c2] at h
  by_cases c3 : c = 3
  · subst c3
    rw [if_pos rfl] at h
    cases hs : nameP bs s with
    | error e => rw [hs] at h; cases h
    | ok z =>
      obtain ⟨y, s1⟩ := z
      obtain ⟨p1, p2, p3, p4, p5⟩ := name_span hnd hs
      rw [hs] at h
      cases h
      refine ⟨p3, p4, ?_, by simp [encT, headB, encTs, p2], p5⟩
      rw [p1]
      simp [encT, headB, encTs]
  rw [if_neg c3] at h
  by_cases c4 : c = 4 ∨ c = 5
  · rw [if_pos c4] at h
    cases ho : oneP bs s with
    | error e => rw [ho] at h; cases h
    | ok z =>
      obtain ⟨node, s1⟩ := z
      obtain ⟨o1, o2, o3, o4⟩ := one_span ho
      rw [ho] at h
      simp only at h
      have n1 : s1.names = s.names := by rw [o1]
      have i1 : s1.i = s.i + 1 := by rw [o1]
      cases hw : wideN bs s1 with
      | error e => rw [hw] at h; cases h
      | ok z =>
        obtain ⟨boot, s2⟩ := z
        obtain ⟨w1, w2, w3, w4⟩ := wide_span hw
        rw [hw] at h
        simp only at h
        split at h
        · cases h
        · cases hw2 : wideN bs s2 with
          | error e => rw [hw2] at h; cases h
          | ok z =>
            obtain ⟨idn, s3⟩ := z
            obtain ⟨x1, x2, x3, x4⟩ := wide_span hw2
            rw [hw2] at h
            simp only at h
            split at h
            · cases h
              have n3 : s'.names = s.names := by rw [x4, w4, n1]
              refine ⟨by omega, x3, ?_, ?_, by rw [n3]; exact hnd⟩
              · rw [← span_app (j := s1.i) (by omega) (by omega), ← span_app (i := s1.i) (j := s2.i) (by omega) (by omega), o4, w1, x1]
                rcases c4 with rfl | rfl <;> simp [encT, headB, encTs]
              · rcases c4 with rfl | rfl <;> simp [encT, headB, encTs, n3]
            · cases h
  rw [if_neg c4] at h
  by_cases c6 : c = 6 ∨ c = 7
  · rw [if_pos c6] at h
    cases hw : wideN bs s with
    | error e => rw [hw] at h; cases h
    | ok z =>
      obtain ⟨k, s1⟩ := z
      obtain ⟨w1, w2, w3, w4⟩ := wide_span hw
      rw [hw] at h
      simp only at h
      split at h
      · cases h
      · cases hm : manyP sub k s1 with
        | error e => rw [hm] at h; cases h
        | ok z =>
          obtain ⟨l, s2⟩ := z
          obtain ⟨a1, a2, a3, a4, a5, a6⟩ := many_span hsub k s1 l s2 (by rw [w4]; exact hnd) w3 hm
          rw [hm] at h
          cases h
          rw [w4] at a2 a3
          refine ⟨by omega, a5, ?_, ?_, a6⟩
          · rw [← span_app (j := s1.i) (by omega) (by omega), w1, a2]
            rcases c6 with rfl | rfl <;> simp [encT, headB, a1]
          · rcases c6 with rfl | rfl <;> simp [encT, headB, a3]
  rw [if_neg c6] at h
  by_cases c8 : c = 8
  · subst c8
    rw [if_pos rfl] at h
    cases hw : wideN bs s with
    | error e => rw [hw] at h; cases h
    | ok z =>
      obtain ⟨k, s1⟩ := z
      obtain ⟨w1, w2, w3, w4⟩ := wide_span hw
      rw [hw] at h
      simp only at h
      split at h
      · cases h
      · cases hs : someP bs k { s1 with n := s1.n + k } with
        | error e => rw [hs] at h; cases h
        | ok z =>
          obtain ⟨l, s2⟩ := z
          obtain ⟨p1, p2, p3, p4⟩ := some_span hs
          rw [hs] at h
          cases h
          have n1 : s'.names = s.names := by rw [p1]; exact w4
          have i1 : s'.i = s1.i + k := by rw [p1]
          have p3' : s1.i + k ≤ bs.length := p3
          have p4' : span bs s1.i s'.i = l := p4
          refine ⟨by omega, by omega, ?_, by simp [encT, headB, encTs, n1], by rw [n1]; exact hnd⟩
          rw [← span_app (j := s1.i) (by omega) (by omega), w1, p4']
          simp [encT, headB, encTs, p2]
  · rw [if_neg c8] at h
    cases h
theorem part_span (bs : List UInt8) : ∀ (rest : Nat) (s : St) (t : Tm) (s' : St), s.names.Nodup → s.i ≤ bs.length → partP bs rest s = .ok (t, s') → Wrote bs s t s'
  | 0, s, t, s', _, _, h => by cases h
  | rest + 1, s, t, s', hnd, hi, h => by
    unfold partP at h
    split at h
    · cases h
    · cases ho : oneP bs { s with n := s.n + 1 } with
      | error e => rw [ho] at h; cases h
      | ok z =>
        obtain ⟨c, s1⟩ := z
        obtain ⟨o1, o2, o3, o4⟩ := one_span ho
        rw [ho] at h
        have n1 : s1.names = s.names := by rw [o1]
        have i1 : s1.i = s.i + 1 := by rw [o1]
        have o3' : s.i < bs.length := o3
        have o4' : span bs s.i s1.i = [UInt8.ofNat c] := o4
        have k := kind_span (fun s t s' a b c => part_span bs rest s t s' a b c) (by rw [n1]; exact hnd) (by omega) h
        have k1 := k.le
        have k3 := k.same
        have k4 := k.nms
        rw [n1] at k3 k4
        refine ⟨by omega, k.hi, ?_, k4, k.nd⟩
        rw [← span_app (j := s1.i) (by omega) (by omega), o4', ← k3]
        rfl
/-- WHAT IS READ OF BYTES HAS JUST THESE BYTES -/
theorem decode_bytes {bs : List UInt8} {t : Tm} (h : decodeP bs = .ok t) : 69 :: (encT t []).1 = bs ∧ bs.length ≤ 131072 := by
  unfold decodeP at h
  split at h
  · cases h
  · rename_i hl
    cases ho : oneP bs ⟨0, 0, []⟩ with
    | error e => rw [ho] at h; cases h
    | ok z =>
      obtain ⟨c, s⟩ := z
      obtain ⟨o1, o2, o3, o4⟩ := one_span ho
      rw [ho] at h
      simp only at h
      split at h
      · cases h
      · rename_i hc
        have hc : c = 69 := Classical.byContradiction hc
        subst hc
        cases hp : partP bs 24 s with
        | error e => rw [hp] at h; cases h
        | ok z =>
          obtain ⟨t2, s2⟩ := z
          rw [hp] at h
          simp only at h
          split at h
          · cases h
          · rename_i hi
            cases h
            have n1 : s.names = [] := by rw [o1]
            have i1 : s.i = 1 := by rw [o1]
            have o3' : 0 < bs.length := o3
            have o4' : span bs 0 s.i = [UInt8.ofNat 69] := o4
            have r := part_span bs 24 s t s2 (by rw [n1]; exact List.nodup_nil) (by omega) hp
            have r1 := r.same
            rw [n1] at r1
            have r2 := r.hi
            have e2 : s2.i = bs.length := by omega
            refine ⟨?_, by omega⟩
            have h1 := span_app (bs := bs) (i := 0) (j := s.i) (k := s2.i) (by omega) r.le
            rw [o4', r1, e2] at h1
            have h2 : span bs 0 bs.length = bs := by simp [span]
            rw [h2] at h1
            exact h1
end Go.Proofs.Ytkfblapfphnggaa
/- What is wrong has a number: plain Lean, no program here. -/
namespace Go.Proofs.Ytkfblapfphnggaa
open Go.RowKit
set_option maxRecDepth 100000

theorem oneP_e72_p {bs : List UInt8} {s : St} {x : Int} (h : oneP bs s = .error x) : x = 72 := by
  unfold oneP at h
  split at h
  · cases h
  · cases h; rfl
theorem wideN_err_p {bs : List UInt8} {s : St} {x : Int} (h : wideN bs s = .error x) : x = 72 ∨ x = 73 := by
  have key : ∀ (rest k acc : Nat) (s : St), wideP bs rest k acc s = .error x → x = 72 ∨ x = 73 := by
    intro rest
    induction rest with
    | zero => intro k acc s h; cases h; exact .inr rfl
    | succ rest ih =>
      intro k acc s h
      simp only [wideP] at h
      cases ho : oneP bs s with
      | error e => rw [ho] at h; cases h; exact .inl (oneP_e72_p ho)
      | ok y =>
        rw [ho] at h
        simp only at h
        split at h
        · cases h; exact .inr rfl
        · split at h
          · exact ih _ _ _ h
          · split at h
            · cases h; exact .inr rfl
            · cases h
  exact key 10 0 0 s h
theorem someP_e72_p {bs : List UInt8} {n : Nat} {s : St} {x : Int} (h : someP bs n s = .error x) : x = 72 := by
  unfold someP at h
  split at h
  · cases h
  · cases h; rfl
theorem nameP_e0_p {bs : List UInt8} {s : St} {x : Int} (h : nameP bs s = .error x) : ¬ x = 0 := by
  unfold nameP at h
  cases hw : wideN bs s with
  | error e => rw [hw] at h; cases h; rcases wideN_err_p hw with h | h <;> omega
  | ok y =>
    obtain ⟨k, s1⟩ := y
    rw [hw] at h
    simp only at h
    split at h
    · cases h; decide
    · split at h
      · cases h
      · cases ho : oneP bs s1 with
        | error e => rw [ho] at h; cases h; have := oneP_e72_p ho; omega
        | ok y =>
          obtain ⟨size, s2⟩ := y
          rw [ho] at h
          simp only at h
          split at h
          · cases h; decide
          · cases hs : someP bs size s2 with
            | error e => rw [hs] at h; cases h; have := someP_e72_p hs; omega
            | ok y =>
              obtain ⟨l, s3⟩ := y
              rw [hs] at h
              simp only at h
              split at h
              · cases h
              · cases h; decide
theorem many_err0_p {sub : Rd Tm} (hsub : ∀ s x, sub s = .error x → ¬ x = 0) : ∀ (k : Nat) (s : St) (x : Int), manyP sub k s = .error x → ¬ x = 0
  | 0, _, _, h => by cases h
  | k + 1, s, x, h => by
    simp only [manyP] at h
    cases hs : sub s with
    | error e => rw [hs] at h; cases h; exact hsub _ _ hs
    | ok y =>
      rw [hs] at h
      simp only at h
      cases hm : manyP sub k y.2 with
      | error e => rw [hm] at h; cases h; exact many_err0_p hsub k _ _ hm
      | ok z => rw [hm] at h; cases h
theorem kind_err_p {bs : List UInt8} {sub : Rd Tm} (hsub : ∀ s x, sub s = .error x → ¬ x = 0) {c : Nat} {s : St} {x : Int} (h : kindP bs sub c s = .error x) : ¬ x = 0 := by
  have w : ∀ s e, wideN bs s = .error e → ¬ e = 0 := fun s e h => by rcases wideN_err_p h with h | h <;> omega
  have o : ∀ s e, oneP bs s = .error e → ¬ e = 0 := fun s e h => by have := oneP_e72_p h; omega
  have sm : ∀ n s e, someP bs n s = .error e → ¬ e = 0 := fun n s e h => by have := someP_e72_p h; omega
  have m := many_err0_p hsub
  unfold kindP at h
  repeat' (split at h)
  all_goals (try cases h)
  all_goals (first | decide | (apply w; assumption) | (apply o; assumption) | (apply sm; assumption) | (apply nameP_e0_p; assumption) | (apply m; assumption))
theorem part_err_p (bs : List UInt8) : ∀ (rest : Nat) (s : St) (x : Int), partP bs rest s = .error x → ¬ x = 0
  | 0, s, x, h => by cases h; decide
  | rest + 1, s, x, h => by
    unfold partP at h
    split at h
    · cases h; decide
    · cases ho : oneP bs { s with n := s.n + 1 } with
      | error e => rw [ho] at h; cases h; have := oneP_e72_p ho; omega
      | ok y => rw [ho] at h; exact kind_err_p (part_err_p bs rest) h
theorem decode_err {bs : List UInt8} {x : Int} (h : decodeP bs = .error x) : ¬ x = 0 := by
  unfold decodeP at h
  split at h
  · cases h; decide
  · cases ho : oneP bs ⟨0, 0, []⟩ with
    | error e => rw [ho] at h; cases h; have := oneP_e72_p ho; omega
    | ok y =>
      obtain ⟨c, s⟩ := y
      rw [ho] at h
      simp only at h
      split at h
      · cases h; decide
      · cases hp : partP bs 24 s with
        | error e => rw [hp] at h; cases h; exact part_err_p bs 24 s x hp
        | ok z =>
          obtain ⟨t2, s2⟩ := z
          rw [hp] at h
          simp only at h
          split at h
          · cases h; decide
          · cases h
end Go.Proofs.Ytkfblapfphnggaa
/- EtfOne: the walk. -/
namespace Go.Proofs.Ytkfblapfphnggaa
open Go.RowKit
set_option maxRecDepth 100000
attribute [local go_sem] run_store_complex

theorem dec_read_p {bs : List UInt8} {t : Tm} (h : decodeP bs = .ok t) : GoodT 24 t ∧ sizeT t ≤ 4096 := by
  unfold decodeP at h
  split at h
  · cases h
  · cases ho : oneP bs ⟨0, 0, []⟩ with
    | error e => rw [ho] at h; cases h
    | ok y =>
      obtain ⟨c, s⟩ := y
      obtain ⟨_, o2, _⟩ := oneP_ok ho
      rw [ho] at h
      simp only at h
      split at h
      · cases h
      · cases hp : partP bs 24 s with
        | error e => rw [hp] at h; cases h
        | ok z =>
          obtain ⟨t2, s2⟩ := z
          rw [hp] at h
          simp only at h
          split at h
          · cases h
          · cases h
            have r := part_read bs 24 s t s2 hp
            have hn : s.n = 0 := by rw [o2]
            have hnm : s.names = [] := by rw [o2]
            refine ⟨(r.good (by rw [hnm]; simp)).1, ?_⟩
            have := r.cnt
            have := r.le
            omega
theorem zero_fin : ∀ x ∈ flatT (.mk {} []), HdFin x.1 ∧ x.1.b.length ≤ 9223372036854775807 := by
  intro y hy
  simp [flatT, flatTs] at hy
  subst hy
  exact ⟨⟨order_self (by decide), order_self (by decide)⟩, by decide⟩
set_option maxHeartbeats 4000000 in
theorem one_walk (a : Option Addr) (n c : Nat) (bs : List UInt8) (w : World) (h : Sl w (.slice a n c) (bs.map cellB)) : Calls Try.prog 4 #[.slice a n c] w (RB w (.bool true)) := by
  have HS := Lib.hid h
  clear h
  go_enter Try.func4, Try.ntmps4
  go_wp2_with fail
  refine (alive_any w).mono ?_
  rintro e w1 ⟨rfl, hb⟩
  have HB1 := Lib.hid hb
  have HS1 := Lib.hid (HS.out.below hb)
  clear hb HS
  go_wp2_with fail
  refine (decode_any _ bs w1 HS1.out).mono ?_
  intro e w2 he
  cases hd : decodeP bs with
  | error x =>
    rw [hd] at he
    obtain ⟨rfl, hb⟩ := he
    have HB2 := Lib.hid (HB1.out.trans (hb.mono HB1.out.size))
    have hx := decode_err hd
    have hx2 : (x != 0) = true := bne_iff_ne.2 hx
    clear hb HB1 HS1 hd hx
    go_upto_region 4 with fail
    have hb3 := ((Below.refl w2.heap.size w2).alloc (Nat.le_refl _) (.cells zC 31))
    have HB3 := Lib.hid (HB2.out.trans (hb3.mono HB2.out.size))
    have HX3 := Lib.hid (heap_new w2 (.cells zC 31))
    clear hb3 HB2
    generalize w2.alloc (.cells zC 31) = w3 at *
    generalize w2.heap.size = b3 at *
    obtain ⟨k0, k1, k2, k3, k4, k5, k6, k7, k8⟩ := NineAt.of_block HX3.out
    have HSm := Lib.hid (same_any (.mk {} []) zero_fin (by decide) (fun _ => False) (fun _ => False) zC zC w3 (Rep.leaf (h := {}) rfl) (Rep.leaf (h := {}) rfl) (fun b e => e.elim) (fun b e => e.elim))
    go_wp2_with fail
    refine HSm.out.mono ?_
    rintro e w4 ⟨rfl, hb⟩
    have HB4 := Lib.hid (HB3.out.trans (hb.mono HB3.out.size))
    clear hb k0 k1 k2 k3 k4 k5 k6 k7 k8
    go_wp2_with fail
    go_ret
    exact ⟨rfl, HB4.out⟩
  | ok t =>
    rw [hd] at he
    obtain ⟨cs, rfl, hr, hb⟩ := he
    obtain ⟨g1, g2⟩ := dec_read_p hd
    obtain ⟨g3, g4⟩ := decode_bytes hd
    have HG := Lib.hid g1
    have HSz := Lib.hid g2
    have HE := Lib.hid g3
    have HLn := Lib.hid g4
    have HR2 := Lib.hid (Rep.mono (F' := fun b => b < w2.heap.size) (fun b _ hb => hb) _ _ hr)
    have HB2 := Lib.hid (HB1.out.trans (hb.mono HB1.out.size))
    have HS2 := Lib.hid (HS1.out.below hb)
    obtain ⟨q0, q1, q2, q3, q4, q5, q6, q7, q8, q9, q10, q11, q12, q13, rfl⟩ := rep_nine' hr
    clear hb HB1 HS1 hd hr g1 g2 g3 g4
    go_upto_region 4 with fail
    have hb3 := ((Below.refl w2.heap.size w2).alloc (Nat.le_refl _) (.cells #[.int .i64 q0, .int .i64 q1, .complex .f64 q2 q3, .string q4, .int .i64 q5, .int .u32 q6, .int .u64 q7, .slice q8 q9 q10, .slice q11 q12 q13] 31))
    have HR3 := Lib.hid (Rep.mono (F' := fun b => b < (w2.alloc (.cells #[.int .i64 q0, .int .i64 q1, .complex .f64 q2 q3, .string q4, .int .i64 q5, .int .u32 q6, .int .u64 q7, .slice q8 q9 q10, .slice q11 q12 q13] 31)).heap.size) (fun b _ hb => hb) _ _ (Rep.keep (fun b _ hb => hb3.block b hb) _ _ HR2.out))
    have HS3 := Lib.hid (HS2.out.below hb3)
    have HB3 := Lib.hid (HB2.out.trans (hb3.mono HB2.out.size))
    have HX3 := Lib.hid (heap_new w2 (.cells #[.int .i64 q0, .int .i64 q1, .complex .f64 q2 q3, .string q4, .int .i64 q5, .int .u32 q6, .int .u64 q7, .slice q8 q9 q10, .slice q11 q12 q13] 31))
    clear hb3 HB2 HR2 HS2
    generalize w2.alloc (.cells #[.int .i64 q0, .int .i64 q1, .complex .f64 q2 q3, .string q4, .int .i64 q5, .int .u32 q6, .int .u64 q7, .slice q8 q9 q10, .slice q11 q12 q13] 31) = w3 at *
    generalize w2.heap.size = b3 at *
    obtain ⟨k0, k1, k2, k3, k4, k5, k6, k7, k8⟩ := NineAt.of_block HX3.out
    go_wp2_with fail
    clear k0 k1 k2 k3 k4 k5 k6 k7 k8
    refine (encode_good t HG.out HSz.out _ _ w3 HR3.out (fun b e => e)).mono ?_
    intro e w4 he
    rw [HE.out] at he
    obtain ⟨a5, c5, rfl, ho5, hb⟩ : ∃ (a : Option Addr) (c : Nat), e = .returned (.tuple #[.slice a bs.length c, .int .i64 0]) ∧ w4.ownsRow w3.heap.size 5 1 (.slice a bs.length c) bs.length (bs.map cellB) ∧ Below w3.heap.size w3 w4 := by
      rcases he with ⟨_, h⟩ | ⟨h, _⟩
      · exact h
      · exact absurd h (by have := HLn.out; omega)
    have HSl4 := Lib.hid (Sl.of_owns ho5 (by simp; have := HLn.out; omega))
    have HR4 := Lib.hid (Rep.mono (F' := fun b => b < w4.heap.size) (fun b _ hb => hb) _ _ (Rep.keep (fun b _ hl => hb.block b hl) _ _ HR3.out))
    have HS4 := Lib.hid (HS3.out.below hb)
    have HB4 := Lib.hid (HB3.out.trans (hb.mono HB3.out.size))
    have HX4 := Lib.hid ((hb.block _ (blk_lt HX3.out)).trans HX3.out)
    clear hb ho5 HR3 HS3 HB3 HX3 he
    obtain ⟨k0, k1, k2, k3, k4, k5, k6, k7, k8⟩ := NineAt.of_block HX4.out
    go_wp2_with fail
    clear k0 k1 k2 k3 k4 k5 k6 k7 k8
    refine (check_good t HG.out HSz.out _ _ w4 HR4.out (fun b e => e)).mono ?_
    rintro e w6 ⟨rfl, hb⟩
    have HB6 := Lib.hid (HB4.out.trans (hb.mono HB4.out.size))
    have hcv1 := conv_any (P := Try.prog) _ Try.underlying22 Try.underlying5 Try.underlying9 (HS4.out.below hb)
    have hcv2 := conv_any (P := Try.prog) _ Try.underlying22 Try.underlying5 Try.underlying9 (HSl4.out.below hb)
    clear hb
    go_wp2_with fail
    go_ret
    exact ⟨by first | rfl | (simp; done), HB6.out⟩
theorem one_go (v : Value) (bs : List UInt8) (w : World) (h : Sl w v (bs.map cellB)) : Calls Try.prog 4 #[v] w (RB w (.bool true)) := by
  have h2 := h
  obtain ⟨a, c, rfl, _⟩ := h2
  exact one_walk a _ c bs w h
end Go.Proofs.Ytkfblapfphnggaa
/- Bytes that came in. -/
namespace Go.Proofs.Ytkfblapfphnggaa
open Go.RowKit Go.WideShapes Go.ChangeShapes
set_option maxRecDepth 100000

/-- bytes that came in -/
theorem bytes_open_p {H : Type} {enc : TypeId × Value → H} {w : World} {x : Option Addr} {len cap : Nat} {d : DataW H} {ps : List MemPlace} (h : DataW.Trod enc Try.prog w 0 (fun _ => true) true 22 (.slice x len cap) d ps) :
    ∃ bs : List UInt8, Sl w (.slice x len cap) (bs.map cellB) := by
  obtain ⟨zs, _, _, hs, hw, _⟩ := sl_open Try.underlying22 Try.underlying5 (by kernel_rfl) h
  refine ⟨zs.map fun z => UInt8.ofNat z.toNat, ?_⟩
  have e : (zs.map fun z => UInt8.ofNat z.toNat).map cellB = zs.map (Value.int .u8) := by
    rw [List.map_map]
    refine List.map_congr_left fun z hz => ?_
    have hwz := hw z hz
    have hz2 : 0 ≤ z ∧ z < 256 := by
      simp [Lit.wf] at hwz
      have e1 : IntKind.u8.min = 0 := by decide
      have e2 : IntKind.u8.max = 255 := by decide
      omega
    show Value.int .u8 _ = _
    rw [ofNat_toNat]
    congr 1
    omega
  rw [e]
  exact hs
end Go.Proofs.Ytkfblapfphnggaa
