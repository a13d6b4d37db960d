/- Several texts in one. -/
import Derived.Test.YtkfblapfphnggaaD21
import Derived.Test.YtkfblapfphnggaaD32
import Derived.Test.YtkfblapfphnggaaD33
import Derived.Test.YtkfblapfphnggaaD34
import Derived.Test.YtkfblapfphnggaaD35
import Derived.Test.YtkfblapfphnggaaD37
import Derived.Test.YtkfblapfphnggaaD38
import Derived.Test.YtkfblapfphnggaaD39
import Derived.Test.YtkfblapfphnggaaD40
import Derived.Test.YtkfblapfphnggaaD41
import Derived.Test.YtkfblapfphnggaaD42
/- The document's reader of a part, whatever the bytes. -/
namespace Go.Proofs.Ytkfblapfphnggaa
open Go.RowKit
set_option maxRecDepth 100000

theorem oneP_e72 {bs : List UInt8} {s : St} {x : Int} (h : oneP bs s = .error x) : x = 72 := by
  unfold oneP at h
  split at h
  · cases h
  · cases h; rfl
theorem someP_e72 {bs : List UInt8} {n : Nat} {s : St} {x : Int} (h : someP bs n s = .error x) : x = 72 := by
  unfold someP at h
  split at h
  · cases h
  · cases h; rfl
theorem nameP_e0 {bs : List UInt8} {s : St} {x : Int} (h : nameP bs s = .error x) : ¬ x = 0 := by
  unfold nameP at h
  cases hw : wideN bs s with
  | error e => rw [hw] at h; cases h; rcases wideN_err hw with h | h <;> omega
  | ok y =>
    obtain ⟨k, s1⟩ := y
    rw [hw] at h
    simp only at h
    split at h
    · cases h; decide
    · split at h
      · cases h
      · cases ho : oneP bs s1 with
        | error e => rw [ho] at h; cases h; have := oneP_e72 ho; omega
        | ok y =>
          obtain ⟨size, s2⟩ := y
          rw [ho] at h
          simp only at h
          split at h
          · cases h; decide
          · cases hs : someP bs size s2 with
            | error e => rw [hs] at h; cases h; have := someP_e72 hs; omega
            | ok y =>
              obtain ⟨l, s3⟩ := y
              rw [hs] at h
              simp only at h
              split at h
              · cases h
              · cases h; decide
theorem nameP_ile {bs : List UInt8} {s s' : St} {y : ByteArray} (h : nameP bs s = .ok (y, s')) : s'.i ≤ bs.length := by
  unfold nameP at h
  cases hw : wideN bs s with
  | error e => rw [hw] at h; cases h
  | ok y =>
    obtain ⟨k, s1⟩ := y
    rw [hw] at h
    simp only at h
    split at h
    · cases h
    · split at h
      · cases h; exact wideN_ile hw
      · cases ho : oneP bs s1 with
        | error e => rw [ho] at h; cases h
        | ok y =>
          obtain ⟨size, s2⟩ := y
          rw [ho] at h
          simp only at h
          split at h
          · cases h
          · cases hs : someP bs size s2 with
            | error e => rw [hs] at h; cases h
            | ok y =>
              obtain ⟨l, s3⟩ := y
              obtain ⟨e3, _, e4⟩ := some_st hs
              rw [hs] at h
              simp only at h
              split at h
              · cases h; rw [e3]; exact e4
              · cases h
theorem many_err0 {sub : Rd Tm} (hsub : ∀ s x, sub s = .error x → ¬ x = 0) : ∀ (k : Nat) (s : St) (x : Int), manyP sub k s = .error x → ¬ x = 0
  | 0, _, _, h => by cases h
  | k + 1, s, x, h => by
    simp only [manyP] at h
    cases hs : sub s with
    | error e => rw [hs] at h; cases h; exact hsub _ _ hs
    | ok y =>
      rw [hs] at h
      simp only at h
      cases hm : manyP sub k y.2 with
      | error e => rw [hm] at h; cases h; exact many_err0 hsub k _ _ hm
      | ok z => rw [hm] at h; cases h
theorem many_ile {bs : List UInt8} {sub : Rd Tm} (hsub : ∀ s t s', s.i ≤ bs.length → sub s = .ok (t, s') → s'.i ≤ bs.length) : ∀ (k : Nat) (s : St) (l : List Tm) (s' : St), s.i ≤ bs.length → manyP sub k s = .ok (l, s') → s'.i ≤ bs.length
  | 0, _, _, _, hi, h => by cases h; exact hi
  | k + 1, s, l, s', hi, h => by
    simp only [manyP] at h
    cases hs : sub s with
    | error e => rw [hs] at h; cases h
    | ok y =>
      rw [hs] at h
      simp only at h
      cases hm : manyP sub k y.2 with
      | error e => rw [hm] at h; cases h
      | ok z =>
        rw [hm] at h
        cases h
        exact many_ile hsub k _ z.1 z.2 (hsub s y.1 y.2 hi hs) hm
theorem kind_err {bs : List UInt8} {sub : Rd Tm} (hsub : ∀ s x, sub s = .error x → ¬ x = 0) {c : Nat} {s : St} {x : Int} (h : kindP bs sub c s = .error x) : ¬ x = 0 := by
  have w : ∀ s e, wideN bs s = .error e → ¬ e = 0 := fun s e h => by rcases wideN_err h with h | h <;> omega
  have o : ∀ s e, oneP bs s = .error e → ¬ e = 0 := fun s e h => by have := oneP_e72 h; omega
  have sm : ∀ n s e, someP bs n s = .error e → ¬ e = 0 := fun n s e h => by have := someP_e72 h; omega
  have m := many_err0 hsub
  unfold kindP at h
  repeat' (split at h)
  all_goals (try cases h)
  all_goals (first | decide | (apply w; assumption) | (apply o; assumption) | (apply sm; assumption) | (apply nameP_e0; assumption) | (apply m; assumption))
theorem part_err (bs : List UInt8) : ∀ (rest : Nat) (s : St) (x : Int), partP bs rest s = .error x → ¬ x = 0
  | 0, s, x, h => by cases h; decide
  | rest + 1, s, x, h => by
    unfold partP at h
    split at h
    · cases h; decide
    · cases ho : oneP bs { s with n := s.n + 1 } with
      | error e => rw [ho] at h; cases h; have := oneP_e72 ho; omega
      | ok y => rw [ho] at h; exact kind_err (part_err bs rest) h
theorem kind_ile {bs : List UInt8} {sub : Rd Tm} (hsub : ∀ s t s', s.i ≤ bs.length → sub s = .ok (t, s') → s'.i ≤ bs.length) {c : Nat} {s s' : St} {t : Tm} (_ : s.i ≤ bs.length) (h : kindP bs sub c s = .ok (t, s')) : s'.i ≤ bs.length := by
  have sm : ∀ n s l s', someP bs n s = .ok (l, s') → s'.i ≤ bs.length := fun n s l s' h => by obtain ⟨e, _, e2⟩ := some_st h; rw [e]; exact e2
  have m := many_ile hsub
  unfold kindP at h
  repeat' (split at h)
  all_goals (try cases h)
  all_goals (first | (apply wideN_ile; assumption) | (apply sm; assumption) | (apply nameP_ile; assumption) | (refine m _ _ _ _ (wideN_ile (by assumption)) (by assumption)))
theorem part_ile (bs : List UInt8) : ∀ (rest : Nat) (s : St) (t : Tm) (s' : St), s.i ≤ bs.length → partP bs rest s = .ok (t, s') → s'.i ≤ bs.length
  | 0, s, t, s', hi, h => by cases h
  | rest + 1, s, t, s', hi, h => by
    unfold partP at h
    split at h
    · cases h
    · cases ho : oneP bs { s with n := s.n + 1 } with
      | error e => rw [ho] at h; cases h
      | ok y =>
        obtain ⟨c, s1⟩ := y
        obtain ⟨_, o2, o3⟩ := oneP_ok ho
        rw [ho] at h
        exact kind_ile (part_ile bs rest) (by rw [o2]; exact o3) h
theorem refpart_any (ba : Option Addr) (bc : Nat) (bs : List UInt8) : ∀ (rest : Nat), rest ≤ 24 → ∀ (d : Int), d = 25 - (rest : Int) → ∀ (na : Option Addr) (nc : Nat) (s : St) (w : World), RfAt w ba bc bs s na nc → s.names.length ≤ s.n →
    Calls Try.prog 20 #[stV ba bs.length bc s.i s.n na s.names.length nc 0, .int .i64 d] w (RPT ba bs.length bc na s.names w (partP bs rest s)) := by
  intro rest
  induction rest with
  | zero =>
    intro _ d hd na nc s w h hn
    by_cases hb : 4096 < s.n + 1
    · exact rq_deep1 ba bc bs s na nc d (by omega) w h hb
    · exact rq_deep0 ba bc bs s na nc d (by omega) w h (by omega)
  | succ rest ih =>
    intro hr d hd na nc s w h hn
    have hd24 : d ≤ 24 := by omega
    unfold partP
    by_cases hb : 4096 < s.n + 1
    · rw [if_pos hb]
      exact rq_big ba bc bs s na nc d hd24 w h hb
    · rw [if_neg hb]
      have hn1 : s.n + 1 ≤ 4096 := by omega
      cases ho : oneP bs { s with n := s.n + 1 } with
      | error x =>
        obtain rfl := oneP_e72 ho
        exact rq_short ba bc bs s na nc d hd24 w h hn1 ho
      | ok y =>
        obtain ⟨c, s1⟩ := y
        obtain ⟨o1, o2, o3⟩ := oneP_ok ho
        have hse := part_err bs rest
        have hsn : ∀ s t s', s.i ≤ bs.length → s.n ≤ 4097 → s.names.length ≤ s.n → partP bs rest s = .ok (t, s') → s'.i ≤ bs.length ∧ s'.n ≤ 4097 ∧ s'.names.length ≤ s'.n := fun s t s' hi _ hn h =>
          ⟨part_ile bs rest s t s' hi h, by have := (part_read bs rest s t s' h).le; omega, (part_read bs rest s t s' h).nms (by omega)⟩
        have hsub : ∀ (na : Option Addr) (nc : Nat) (s : St) (w : World), RfAt w ba bc bs s na nc → s.names.length ≤ s.n → Calls Try.prog 20 #[stV ba bs.length bc s.i s.n na s.names.length nc 0, .int .i64 (d + 1)] w (RPT ba bs.length bc na s.names w (partP bs rest s)) :=
          fun na nc s w h hn => ih (by omega) _ (by omega) na nc s w h hn
        show Calls _ _ _ _ (RPT ba bs.length bc na s.names w (kindP bs (partP bs rest) c s1))
        by_cases c1 : c = 1
        · subst c1
          cases hw : wideN bs s1 with
          | error x => exact rq1_err ba bc bs s s1 _ na nc d hd24 w h hn1 ho x hw
          | ok y => exact rq1_ok ba bc bs s s1 _ na nc d hd24 w h hn1 ho y.1 y.2 hw
        by_cases c2 : c = 2
        · subst c2; exact rq2 ba bc bs s s1 _ na nc d hd24 w h hn1 ho hn
        by_cases c3 : c = 3
        · subst c3
          cases hw : nameP bs s1 with
          | error x => exact rq3_err ba bc bs s s1 _ na nc d hd24 w h hn1 ho x hw (by omega)
          | ok y => exact rq3_ok ba bc bs s s1 _ na nc d hd24 w h hn1 ho y.1 y.2 hw (by omega)
        by_cases c4 : c = 4
        · subst c4; exact rq4 ba bc bs s s1 _ na nc d hd24 w h hn1 ho hn
        by_cases c5 : c = 5
        · subst c5; exact rq5 ba bc bs s s1 _ na nc d hd24 w h hn1 ho hn
        by_cases c6 : c = 6
        · subst c6; exact rq6 ba bc bs s s1 _ na nc d hd24 w h hn1 ho hn (by omega) hse hsn hsub
        by_cases c7 : c = 7
        · subst c7; exact rq7 ba bc bs s s1 _ na nc d hd24 w h hn1 ho hn (by omega) hse hsn hsub
        by_cases c8 : c = 8
        · subst c8; exact rq8 ba bc bs s s1 _ na nc d hd24 w h hn1 ho hn
        · exact rq_bad ba bc bs s s1 c _ na nc d hd24 w h hn1 ho o1 (by omega)
end Go.Proofs.Ytkfblapfphnggaa
