/- The walks of octets.In's size, Text. -/
import Derived.Test.YtekailaoanpcgaaIn2
namespace Go.Proofs.Ytekailaoanpcgaa
open Go.RowKit

theorem rInt_zero {s : List UInt8} {e : Int} (h : (Oct.rInt s e).2.2 ≠ 0) : (Oct.rInt s e).1 = 0 := by
  unfold Oct.rInt at *
  split
  · split
    · simp_all
    · rfl
  · rfl
theorem rInt_len (s : List UInt8) (e : Int) : (Oct.rInt s e).2.1.length ≤ s.length := by
  unfold Oct.rInt
  split
  · split <;> simp
  · simp
theorem rInt_in {s : List UInt8} {e : Int} : -9007199254740992 ≤ (Oct.rInt s e).1 ∧ (Oct.rInt s e).1 ≤ 9007199254740992 := by
  unfold Oct.rInt
  split
  · split
    · rename_i h
      have := Oct.dec_ok (s := s) (n := (Oct.dec s).1) (k := (Oct.dec s).2.1) (by rw [← h])
      exact ⟨this.1, this.2.1⟩
    · simp
  · simp
theorem rSize_eq (most : Int) (s : List UInt8) (e : Int) : Oct.rSize most s e =
    if (Oct.rInt s e).2.2 = 0 then
      (if (Oct.rInt s e).1 < 0 then (0, (Oct.rInt s e).2.1, 2) else if most < (Oct.rInt s e).1 ∨ 65536 < (Oct.rInt s e).1 then (0, (Oct.rInt s e).2.1, 6) else Oct.rInt s e)
    else (0, (Oct.rInt s e).2.1, (Oct.rInt s e).2.2) := by
  by_cases he : e = 0
  · subst he; rw [Oct.rSize, if_pos rfl]
  · have h := rInt_no (s := s) he
    rw [Oct.rSize, if_neg he, h, if_neg he]
theorem rSize_len (most : Int) (s : List UInt8) (e : Int) : (Oct.rSize most s e).2.1.length ≤ s.length := by
  have := rInt_len s e
  rw [rSize_eq]
  repeat' split
  all_goals exact this
theorem rSize_in (most : Int) (s : List UInt8) (e : Int) : 0 ≤ (Oct.rSize most s e).1 ∧ (Oct.rSize most s e).1 ≤ 65536 ∧ ((Oct.rSize most s e).2.2 ≠ 0 → (Oct.rSize most s e).1 = 0) ∧ ((Oct.rSize most s e).1 ≤ most ∨ (Oct.rSize most s e).1 = 0) := by
  rw [rSize_eq]
  by_cases h1 : (Oct.rInt s e).2.2 = 0
  · rw [if_pos h1]
    by_cases h2 : (Oct.rInt s e).1 < 0
    · rw [if_pos h2]; simp
    · rw [if_neg h2]
      by_cases h3 : most < (Oct.rInt s e).1 ∨ 65536 < (Oct.rInt s e).1
      · rw [if_pos h3]; simp
      · rw [if_neg h3]
        exact ⟨by omega, by omega, fun h => absurd h1 h, by omega⟩
  · rw [if_neg h1]; simp

set_option maxRecDepth 100000 in
set_option maxHeartbeats 400000 in
theorem in_size (b : Nat) (most : Int) (s : List UInt8) (e : Int) (w : World) (h : InAt w b s e) (hl : s.length ≤ 281474976710656) :
    Calls Try.prog 83 #[.pointer (some ⟨b, 0, none⟩), .int .i64 most] w (InP b w (.int .i64 (Oct.rSize most s e).1) (Oct.rSize most s e).2) := by
  have HC := hid (in_int b s e w h hl)
  have hz := rInt_zero (s := s) (e := e)
  have hq := rSize_eq most s e
  have hn1 := (rInt_in (s := s) (e := e)).1
  have hn2 := (rInt_in (s := s) (e := e)).2
  obtain ⟨⟨n, s1, e1⟩, hx⟩ : ∃ x, Oct.rInt s e = x := ⟨_, rfl⟩
  rw [hx] at hz hq HC hn1 hn2
  clear hx
  simp only at hz hq HC hn1 hn2
  by_cases he1 : e1 = 0
  · subst he1
    rw [if_pos rfl] at hq
    by_cases h1 : n < 0
    · rw [if_pos h1] at hq
      have HQ := hid hq
      clear hq hz
      go_enter Try.func83, Try.ntmps83
      go_wp2_with (first | (go_at_call 43; refine HC.out.mono ?_; rintro r w1 ⟨rfl, ha, hf⟩) | (go_at_call 84; refine (fail_first b _ _ _ ha).mono ?_; rintro r w2 ⟨rfl, hb, hg⟩) | (go_at_call 82; refine (ready_no b _ _ _ hb rfl).mono ?_; rintro r w3 ⟨rfl, rfl⟩))
      go_ret
      exact InP_mk (by rw [HQ.out]; rfl) (by rw [HQ.out]) hb (hf.then_ hg)
    · rw [if_neg h1] at hq
      by_cases h2 : most < n ∨ 65536 < n
      · rw [if_pos h2] at hq
        have HQ := hid hq
        clear hq hz
        rcases h2 with h2 | h2
        · go_enter Try.func83, Try.ntmps83
          go_wp2_with (first | (go_at_call 43; refine HC.out.mono ?_; rintro r w1 ⟨rfl, ha, hf⟩) | (go_at_call 84; refine (fail_first b _ _ _ ha).mono ?_; rintro r w2 ⟨rfl, hb, hg⟩) | (go_at_call 82; refine (ready_no b _ _ _ hb rfl).mono ?_; rintro r w3 ⟨rfl, rfl⟩))
          go_ret
          exact InP_mk (by rw [HQ.out]; rfl) (by rw [HQ.out]) hb (hf.then_ hg)
        · by_cases h3 : most < n
          all_goals
            go_enter Try.func83, Try.ntmps83
            go_wp2_with (first | (go_at_call 43; refine HC.out.mono ?_; rintro r w1 ⟨rfl, ha, hf⟩) | (go_at_call 84; refine (fail_first b _ _ _ ha).mono ?_; rintro r w2 ⟨rfl, hb, hg⟩) | (go_at_call 82; refine (ready_no b _ _ _ hb rfl).mono ?_; rintro r w3 ⟨rfl, rfl⟩))
            go_ret
            exact InP_mk (by rw [HQ.out]; rfl) (by rw [HQ.out]) hb (hf.then_ hg)
      · rw [if_neg h2] at hq
        have HQ := hid hq
        have h3 : n ≤ most := by omega
        have h4 : n ≤ 65536 := by omega
        clear hq hz h2
        go_enter Try.func83, Try.ntmps83
        go_wp2_with (first | (go_at_call 43; refine HC.out.mono ?_; rintro r w1 ⟨rfl, ha, hf⟩) | (go_at_call 82; refine (ready_yes b _ _ ha).mono ?_; rintro r w3 ⟨rfl, rfl⟩))
        go_ret
        exact InP_mk (by rw [HQ.out]; rfl) (by rw [HQ.out]) ha hf
  · have hn0 := hz he1
    subst hn0
    rw [if_neg he1] at hq
    have HQ := hid hq
    have he' : (e1 == 0) = false := by simpa using he1
    clear hq hz he1
    by_cases h3 : most < 0
    all_goals
      go_enter Try.func83, Try.ntmps83
      go_wp2_with (first | (go_at_call 43; refine HC.out.mono ?_; rintro r w1 ⟨rfl, ha, hf⟩) | (go_at_call 84; refine (fail_later b _ _ _ _ ha he').mono ?_; rintro r w2 ⟨rfl, rfl⟩) | (go_at_call 82; refine (ready_no b _ _ _ ha he').mono ?_; rintro r w3 ⟨rfl, rfl⟩))
      go_ret
      exact InP_mk (by rw [HQ.out]; rfl) (by rw [HQ.out]) ha hf

theorem rText_len (s : List UInt8) (e : Int) : (Oct.rText s e).2.1.length ≤ s.length ∧ (Oct.rText s e).1.length ≤ 65536 := by
  have h1 := rSize_len 65536 s e
  have h2 := (rSize_in 65536 s e).2.1
  unfold Oct.rText
  split
  · split
    · exact ⟨h1, by simp⟩
    · simp; omega
  · exact ⟨h1, by simp⟩

set_option maxRecDepth 100000 in
set_option maxHeartbeats 400000 in
theorem in_text (b : Nat) (s : List UInt8) (e : Int) (w : World) (h : InAt w b s e) (hl : s.length ≤ 281474976710656) :
    Calls Try.prog 42 #[.pointer (some ⟨b, 0, none⟩)] w (InP b w (.string ⟨(Oct.rText s e).1.toArray⟩) (Oct.rText s e).2) := by
  by_cases he : e = 0
  · subst he
    have HC := hid (fun w (h : InAt w b s 0) => in_size b 65536 s 0 w h hl)
    have hq : Oct.rText s 0 = if (Oct.rSize 65536 s 0).2.2 = 0 then
      (if (Oct.rSize 65536 s 0).2.1.length < (Oct.rSize 65536 s 0).1.toNat then ([], (Oct.rSize 65536 s 0).2.1, 3)
       else ((Oct.rSize 65536 s 0).2.1.take (Oct.rSize 65536 s 0).1.toNat, (Oct.rSize 65536 s 0).2.1.drop (Oct.rSize 65536 s 0).1.toNat, 0))
      else ([], (Oct.rSize 65536 s 0).2.1, (Oct.rSize 65536 s 0).2.2) := rfl
    have hn := rSize_in 65536 s 0
    have hsl := rSize_len 65536 s 0
    obtain ⟨⟨n, s1, e1⟩, hx⟩ : ∃ x, Oct.rSize 65536 s 0 = x := ⟨_, rfl⟩
    rw [hx] at hq HC hn hsl
    clear hx
    simp only at hq HC hn hsl
    obtain ⟨hn1, hn2, hn3, -⟩ := hn
    by_cases he1 : e1 = 0
    · subst he1
      clear hn3
      rw [if_pos rfl] at hq
      obtain ⟨m, rfl⟩ := Int.eq_ofNat_of_zero_le hn1
      rw [Int.toNat_natCast] at hq
      by_cases h1 : s1.length < m
      · rw [if_pos h1] at hq
        have HQ := hid hq
        clear hq
        go_enter Try.func42, Try.ntmps42
        go_wp2_with fail
        refine (ready_yes b _ _ h).mono ?_
        rintro r w1 ⟨rfl, rfl⟩
        go_wp2_with fail
        refine (HC.out _ h).mono ?_
        rintro r w2 ⟨rfl, ha, hf⟩
        have k0 := ha.c0
        go_wp2_with fail
        refine (ready_yes b _ _ ha).mono ?_
        rintro r w3 ⟨rfl, rfl⟩
        go_wp2_with (go_at_call 84; refine (fail_first b _ _ _ ha).mono ?_; rintro r w4 ⟨rfl, hb, hg⟩)
        go_ret
        exact InP_mk (by rw [HQ.out]; rfl) (by rw [HQ.out]) hb (hf.then_ hg)
      · rw [if_neg h1] at hq
        have HQ := hid hq
        have h1' : m ≤ s1.length := by omega
        have htk : List.take (s1.length - m) (List.drop m s1) = List.drop m s1 := List.take_of_length_le (by simp)
        clear hq h1
        go_enter Try.func42, Try.ntmps42
        go_wp2_with fail
        refine (ready_yes b _ _ h).mono ?_
        rintro r w1 ⟨rfl, rfl⟩
        go_wp2_with fail
        refine (HC.out _ h).mono ?_
        rintro r w2 ⟨rfl, ha, hf⟩
        have k0 := ha.c0
        have k2 := ha.f
        go_wp2_with fail
        refine (ready_yes b _ _ ha).mono ?_
        rintro r w3 ⟨rfl, rfl⟩
        go_wp2_with fail
        go_ret
        exact InP_mk (by rw [HQ.out]; rfl) (by rw [HQ.out]) ha.setS (hf.then_ frmOne)
    · rw [if_neg he1] at hq
      have HQ := hid hq
      have he' : (e1 == 0) = false := by simpa using he1
      clear hq hn3 he1
      go_enter Try.func42, Try.ntmps42
      go_wp2_with fail
      refine (ready_yes b _ _ h).mono ?_
      rintro r w1 ⟨rfl, rfl⟩
      go_wp2_with fail
      refine (HC.out _ h).mono ?_
      rintro r w2 ⟨rfl, ha, hf⟩
      go_wp2_with fail
      refine (ready_no b _ _ _ ha he').mono ?_
      rintro r w3 ⟨rfl, rfl⟩
      go_wp2_with fail
      go_ret
      exact InP_mk (by rw [HQ.out]; rfl) (by rw [HQ.out]) ha hf
  · have HQ : Hid (Oct.rText s e = ([], s, e)) := by
      show _ = _
      have hs : Oct.rSize 65536 s e = (0, s, e) := if_neg he
      unfold Oct.rText
      rw [hs]
      exact if_neg he
    have he' : (e == 0) = false := by simpa using he
    clear he
    go_enter Try.func42, Try.ntmps42
    go_wp2_with (go_at_call 82; refine (ready_no b _ _ _ h he').mono ?_; rintro r w3 ⟨rfl, rfl⟩)
    go_ret
    exact InP_mk (by rw [HQ.out]; rfl) (by rw [HQ.out]) h (Frm.refl _ _)

theorem in_text_nil (w : World) :
    Calls Try.prog 42 #[.pointer none] w fun r w' => r = .returned (.string ⟨([] : List UInt8).toArray⟩) ∧ w = w' := by
  go_enter Try.func42, Try.ntmps42
  go_wp2_with (go_at_call 82; refine (ready_nil _).mono ?_; rintro r w1 ⟨rfl, rfl⟩)
  go_ret
  exact ⟨rfl, rfl⟩
end Go.Proofs.Ytekailaoanpcgaa
