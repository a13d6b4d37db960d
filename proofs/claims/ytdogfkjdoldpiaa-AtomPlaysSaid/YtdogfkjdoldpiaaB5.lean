/- AtomFull: 4096 names, and not one more. -/
import Derived.Test.YtdogfkjdoldpiaaB3
namespace Go.Proofs.Ytdogfkjdoldpiaa
open Go.RowKit Go.Maps

/-- a table in blocks from B on -/
def TabFrom (B : Nat) (W : World) (p m : Nat) (l : List ByteArray) : Prop := ∃ v, Tab W p m v l ∧ ∀ i, tabIn p m v i → B ≤ i
theorem from_put {w X Y : World} {p m : Nat} {v : Value} {l : List ByteArray} {s : ByteArray} {e : Ending} (hb : Below w.heap.size w X) (hf : ∀ i, tabIn p m v i → w.heap.size ≤ i) (h : TPutPost X p m v l s e Y) :
    e = .returned (.tuple #[.int .i64 (putL l s).2.1, .int .i64 (putL l s).2.2]) ∧ TabFrom w.heap.size Y p m (putL l s).1 ∧ Below w.heap.size w Y := by
  obtain ⟨v', he, hT, ht, hv⟩ := h
  refine ⟨he, ⟨v', hT, ?_⟩, hb.trans (ht.below hb.size hf)⟩
  rintro i (h | h | h)
  · exact hf i (.inl h)
  · exact hf i (.inr (.inl h))
  · exact put_fresh hv hb.size (fun b e => hf b (.inr (.inr e))) i h
theorem tput_from (w X : World) (p m : Nat) (l : List ByteArray) (s : ByteArray) (hb : Below w.heap.size w X) (h : TabFrom w.heap.size X p m l) (hs : s.size ≤ maxLen) :
    Calls Try.prog 13 #[.pointer (some ⟨p, 0, none⟩), .string s] X fun e Y =>
      e = .returned (.tuple #[.int .i64 (putL l s).2.1, .int .i64 (putL l s).2.2]) ∧ TabFrom w.heap.size Y p m (putL l s).1 ∧ Below w.heap.size w Y := by
  obtain ⟨v, hT, hf⟩ := h
  exact (tput_any p m v l s X hT hs).mono fun e Y hp => from_put hb hf hp
theorem TabFrom.below {B : Nat} {W W' : World} {p m : Nat} {l : List ByteArray} (h : TabFrom B W p m l) (hb : Below W.heap.size W W') : TabFrom B W' p m l := by
  obtain ⟨v, hT, hf⟩ := h
  exact ⟨v, hT.below hb, hf⟩
theorem new_from (w X : World) (hb : Below w.heap.size w X) : Calls Try.prog 12 #[] X fun e Y =>
    e = .returned (.pointer (some ⟨X.heap.size + 1, 0, none⟩)) ∧ TabFrom w.heap.size Y (X.heap.size + 1) X.heap.size [] ∧ Below w.heap.size w Y :=
  (new_any X).mono fun e Y ⟨he, hT, hbY⟩ => ⟨he, ⟨_, hT, by
    have := hb.size
    rintro i (h | h | h)
    · omega
    · omega
    · cases h⟩, hb.trans (hbY.mono hb.size)⟩

def fullRel (w : World) (p m : Nat) (t4 t6 : Value) (wr : World) : Prop := ∃ k : Nat, k ≤ 4096 ∧ t6 = .int .i64 k ∧ t4 = .bool false ∧ TabFrom w.heap.size wr p m (names k) ∧ Below w.heap.size w wr
theorem put_full (s : ByteArray) : (putL (names 4096) s).1 = names 4096 ∧
    ((pos (names 4096) s).isSome = true → nameB s = true → (putL (names 4096) s).2 = ((pos (names 4096) s).getD 0, 0)) ∧ (nameB s = false → (putL (names 4096) s).2 = (0, 30)) ∧ ((pos (names 4096) s).isSome = false → nameB s = true → (putL (names 4096) s).2 = (0, 31)) := by
  cases hn : nameB s <;> cases hp : pos (names 4096) s <;> simp [putL, hn, hp, names_length]
theorem tfind_from (B : Nat) (X : World) (p m : Nat) (l : List ByteArray) (s : ByteArray) (h : TabFrom B X p m l) (hs : s.size ≤ maxLen) :
    Calls Try.prog 20 #[.pointer (some ⟨p, 0, none⟩), .string s] X (RW X (findV l s)) := by
  obtain ⟨v, hT, _⟩ := h
  exact tfind_any p m v l s X hT hs
theorem tlen_from (B : Nat) (X : World) (p m : Nat) (l : List ByteArray) (h : TabFrom B X p m l) :
    Calls Try.prog 18 #[.pointer (some ⟨p, 0, none⟩)] X (RW X (.int .i64 l.length)) := by
  obtain ⟨v, hT, _⟩ := h
  exact len_any p m v l X hT
theorem TabFrom.names {B : Nat} {X : World} {p m : Nat} {l : List ByteArray} (h : TabFrom B X p m l) : l.Nodup ∧ ∀ s, (pos l s).isSome = true → nameB s = true := by
  obtain ⟨v, hT, _⟩ := h
  refine ⟨hT.nd, fun s hs => hT.nm s ?_⟩
  cases hp : pos l s with
  | none => rw [hp] at hs; cases hs
  | some i => exact List.mem_of_getElem? (pos_lt hp).2
theorem bounds_i64 {n : Int} (h : (Lit.int .i64 n).wf = true) : -9223372036854775808 ≤ n ∧ n ≤ 9223372036854775807 := by
  simpa [Lit.wf, IntKind.min, IntKind.max, IntKind.signed, IntKind.bits] using h
theorem full_cases {po : Option Nat} {b : Bool} {r : Nat} {er : Int} (f2 : po.isSome = true → b = true → (r, er) = (po.getD 0, 0)) (f3 : b = false → (r, er) = (0, 30)) (f4 : po.isSome = false → b = true → (r, er) = (0, 31)) (hN : po.isSome = true → b = true) :
    (∃ i, po = some i ∧ r = i ∧ er = 0) ∨ (po = none ∧ b = false ∧ r = 0 ∧ er = 30) ∨ (po = none ∧ b = true ∧ r = 0 ∧ er = 31) := by
  cases po with
  | some i => have := f2 rfl (hN rfl); simp at this; exact .inl ⟨i, rfl, this.1, this.2⟩
  | none =>
    cases b with
    | false => have := f3 rfl; simp at this; exact .inr (.inl ⟨rfl, rfl, this.1, this.2⟩)
    | true => have := f4 rfl rfl; simp at this; exact .inr (.inr ⟨rfl, rfl, this.1, this.2⟩)
theorem put_digit_there {q : Nat} (h : q < 4096) (hnd : (names 4096).Nodup) : putL (names 4096) (digB q) = (names 4096, q, 0) := by
  simp [putL, digB_name, digit_at h (Nat.le_refl _) hnd]
theorem mod_low {n : Int} (h : n < 0) : ∃ q : Nat, q < 4096 ∧ -(n + 1).tmod 4096 = (q : Int) := by
  have e : -(n + 1).tmod 4096 = (-(n + 1)).tmod 4096 := (Int.neg_tmod _ _).symm
  rw [e, Int.tmod_eq_emod_of_nonneg (by omega)]
  exact ⟨((-(n + 1)) % 4096).toNat, by omega, by omega⟩
theorem mod_high {n : Int} (h : ¬ n < 0) : ∃ q : Nat, q < 4096 ∧ n % 4096 = (q : Int) := ⟨(n % 4096).toNat, by omega, by omega⟩
theorem sgn (n : Int) : (n < 0 ∧ ∃ q : Nat, q < 4096 ∧ -(n + 1).tmod 4096 = (q : Int)) ∨ (0 ≤ n ∧ ∃ q : Nat, q < 4096 ∧ n % 4096 = (q : Int)) := by
  by_cases h : n < 0
  · exact .inl ⟨h, mod_low h⟩
  · exact .inr ⟨by omega, mod_high h⟩
set_option maxRecDepth 100000 in
set_option maxHeartbeats 4000000 in
theorem full_walk (s : ByteArray) (n : Int) (w : World) (hs : s.size ≤ maxLen) (hn : (Lit.int .i64 n).wf = true) : Calls Try.prog 7 #[.string s, .int .i64 n] w (RB w (.bool true)) := by
  go_enter Try.func7, Try.ntmps7
  go_wp2_with fail
  refine (alive_any w).mono ?_
  rintro e w1 ⟨rfl, hb1⟩
  go_wp2_with fail
  refine (new_from w w1 hb1).mono ?_
  rintro e w2 ⟨rfl, hT2, hb2⟩
  have HT2 := Lib.hid hT2
  have HB2 := Lib.hid hb2
  clear hT2 hb2
  go_wp2_with fail
  go_loopw [4, 6] (fun t4 t6 wr => fullRel w (w1.heap.size + 1) w1.heap.size t4 t6 wr) (fun _ t6 _ => 4096 - (intOf t6).toNat)
  case atStart => exact ⟨0, by omega, rfl, rfl, HT2.out, HB2.out⟩
  case round =>
    obtain ⟨k, hk, rfl, rfl, hT, hb⟩ := hrel
    have HT := Lib.hid hT
    have HB := Lib.hid hb
    clear hT hb
    by_cases hlt : k < 4096
    · go_wp2_with fail
      refine (digits_any k wr hlt).mono ?_
      rintro e w3 ⟨rfl, hb3⟩
      have HB3 := Lib.hid (HB.out.trans (hb3.mono HB.out.size))
      have HT3 := Lib.hid (HT.out.below hb3)
      clear hb3
      go_wp2_with fail
      refine (tput_from w w3 _ _ (names k) (digB k) HB3.out HT3.out (by rw [digB, digTo_size]; decide)).mono ?_
      rintro e w4 ⟨rfl, hT4, hb4⟩
      rw [put_digit hlt] at hT4 ⊢
      have HT4 := Lib.hid hT4
      have HB4 := Lib.hid hb4
      clear hT4 hb4
      go_wp2_with fail
      go_roundw
      case rel => exact ⟨k + 1, by omega, by go_num, rfl, HT4.out, HB4.out⟩
      case measure => simp [intOf]; omega
    · obtain rfl : k = 4096 := by omega
      go_wp2_with fail
      refine (tfind_from _ wr _ _ _ s HT.out hs).mono ?_
      rintro e w3 ⟨rfl, rfl⟩
      unfold findV
      obtain ⟨hnd, hnm⟩ := HT.out.names
      obtain ⟨f1, f2, f3, f4⟩ := put_full s
      go_wp2_with fail
      refine (tput_from w wr _ _ _ s HB.out HT.out hs).mono ?_
      rintro e w4 ⟨rfl, hT4, hb4⟩
      rw [f1] at hT4
      have HT4 := Lib.hid hT4
      have HB4 := Lib.hid hb4
      clear hT4 hb4
      generalize (putL (names 4096) s).2 = pr at f2 f3 f4 ⊢
      obtain ⟨r, er⟩ := pr
      have hN := hnm s
      clear hnm
      generalize hpo : pos (names 4096) s = po at f2 f4 hN ⊢
      clear hpo
      have hbd := bounds_i64 hn
      obtain ⟨h64a, h64b⟩ := hbd
      have HN := Lib.hid hn
      clear hn
      rcases full_cases f2 f3 f4 hN with ⟨i, rfl, rfl, rfl⟩ | ⟨rfl, hname, rfl, rfl⟩ | ⟨rfl, hname, rfl, rfl⟩
      all_goals
        have HND := Lib.hid hnd
        clear f1 f2 f3 f4 hN hnd
        rcases sgn n with ⟨hneg, q, hq4, hq⟩ | ⟨hneg, q, hq4, hq⟩
        all_goals
          have HQ := Lib.hid hq
          clear hq
          go_wp2_with fail
          rw [HQ.out]
          refine (digits_any q w4 hq4).mono ?_
          rintro e w5 ⟨rfl, hb5⟩
          have HB5 := Lib.hid (HB4.out.trans (hb5.mono HB4.out.size))
          have HT5 := Lib.hid (HT4.out.below hb5)
          clear hb5
          go_wp2_with fail
          refine (tput_from w w5 _ _ (names 4096) (digB q) HB5.out HT5.out (by rw [digB, digTo_size]; decide)).mono ?_
          rintro e w6 ⟨rfl, hT6, hb6⟩
          rw [put_digit_there hq4 HND.out] at hT6 ⊢
          have HT6 := Lib.hid hT6
          have HB6 := Lib.hid hb6
          clear hT6 hb6
          go_wp2_with fail
          refine (tlen_from _ w6 _ _ _ HT6.out).mono ?_
          rintro e w7 ⟨rfl, rfl⟩
          rw [names_length]
          first
            | (go_wp2_with fail
               go_ret
               exact ⟨rfl, HB6.out⟩)
            | (go_wp2_with fail
               refine (name_any s w6 hs).mono ?_
               rintro e w8 ⟨rfl, hb8⟩
               have HB8 := Lib.hid hb8
               clear hb8
               rw [hname]
               go_wp2_with fail
               go_ret
               exact ⟨rfl, HB6.out.trans (HB8.out.mono HB6.out.size)⟩)
end Go.Proofs.Ytdogfkjdoldpiaa
