/- The walks of the reference's reading functions. -/
import Derived.Test.YtekailaoanpcgaaIn4
namespace Go.Proofs.Ytekailaoanpcgaa
open Go.RowKit

theorem refget_at {l : List UInt8} {n : Int} {k : Nat} {e : Int} (hd : Oct.dec l = (n, k, e)) (w : World) (h : l.length ≤ 281474976710656) :
    Calls Try.prog 86 #[.string ⟨l.toArray⟩] w fun r w' => r = .returned (.tuple #[.int .i64 n, .int .i64 (k : Int), .int .i64 e]) ∧ Frm No w w' :=
  (refget_any l w h).mono fun r w' ⟨hr, hf⟩ => ⟨by rw [hr, hd], hf⟩

set_option maxRecDepth 100000 in
theorem ref_int (b : Nat) (s : List UInt8) (e : Int) (w : World) (h : InAt w b s e) (hl : s.length ≤ 281474976710656) :
    Calls Try.prog 47 #[.pointer (some ⟨b, 0, none⟩)] w (InP b w (.int .i64 (Oct.rInt s e).1) (Oct.rInt s e).2) := by
  have h0 := h.c0
  have h1 := h.c1
  have h2 := h.f
  by_cases he : e = 0
  · subst he
    obtain ⟨n, k, er, hd⟩ : ∃ n k er, Oct.dec s = (n, k, er) := ⟨_, _, _, rfl⟩
    by_cases her : er = 0
    · subst her
      have HR := hid (rInt_ok hd)
      have hk := (Oct.dec_ok hd).2.2.2.1
      have HD := hid hd
      have htk : List.take (s.length - k) (List.drop k s) = List.drop k s := List.take_of_length_le (by simp)
      clear hd
      go_enter Try.func47, Try.ntmps47
      go_wp2_with (go_at_call 86; refine (refget_at HD.out _ hl).mono ?_; rintro r w1 ⟨rfl, hf⟩; have ha := h.frm hf (fun h => h); have k0 := ha.c0; have k2 := ha.f)
      go_ret
      exact InP_mk (by rw [HR.out]; rfl) (by rw [HR.out]) ha.setS (hf.any.then_ frmOne)
    · have HR := hid (rInt_er hd her)
      have HD := hid hd
      have her' : (er == 0) = false := by simpa using her
      clear hd her
      go_enter Try.func47, Try.ntmps47
      go_wp2_with (go_at_call 86; refine (refget_at HD.out _ hl).mono ?_; rintro r w1 ⟨rfl, hf⟩; have ha := h.frm hf (fun h => h); have k1 := ha.c1; have k2 := ha.f)
      go_ret
      exact InP_mk (by rw [HR.out]; rfl) (by rw [HR.out]) ha.setE (hf.any.then_ frmOne)
  · have HR := hid (rInt_no (s := s) he)
    have he' : (e == 0) = false := by simpa using he
    clear he
    go_enter Try.func47, Try.ntmps47
    go_wp2_with fail
    go_ret
    exact InP_mk (by rw [HR.out]; rfl) (by rw [HR.out]) h (Frm.refl _ _)

set_option maxRecDepth 100000 in
set_option maxHeartbeats 400000 in
theorem ref_size (b : Nat) (most : Int) (s : List UInt8) (e : Int) (w : World) (h : InAt w b s e) (hl : s.length ≤ 281474976710656) :
    Calls Try.prog 87 #[.pointer (some ⟨b, 0, none⟩), .int .i64 most] w (InP b w (.int .i64 (Oct.rSize most s e).1) (Oct.rSize most s e).2) := by
  have HC := hid (ref_int b s e w h hl)
  have hz := rInt_zero (s := s) (e := e)
  have hq := rSize_eq most s e
  have hn1 := (rInt_in (s := s) (e := e)).1
  have hn2 := (rInt_in (s := s) (e := e)).2
  obtain ⟨⟨n, s1, e1⟩, hx⟩ : ∃ x, Oct.rInt s e = x := ⟨_, rfl⟩
  rw [hx] at hz hq HC hn1 hn2
  clear hx
  simp only at hz hq HC hn1 hn2
  by_cases he1 : e1 = 0
  · subst he1
    rw [if_pos rfl] at hq
    by_cases h1 : n < 0
    · rw [if_pos h1] at hq
      have HQ := hid hq
      clear hq hz
      go_enter Try.func87, Try.ntmps87
      go_wp2_with (go_at_call 47; refine HC.out.mono ?_; rintro r w1 ⟨rfl, ha, hf⟩; have k1 := ha.c1; have k2 := ha.f)
      go_ret
      exact InP_mk (by rw [HQ.out]; rfl) (by rw [HQ.out]) ha.setE (hf.then_ frmOne)
    · rw [if_neg h1] at hq
      by_cases h2 : most < n ∨ 65536 < n
      · rw [if_pos h2] at hq
        have HQ := hid hq
        clear hq hz
        by_cases h3 : most < n
        · have h3' : decide (most < n) = true := by simpa using h3
          go_enter Try.func87, Try.ntmps87
          go_wp2_with (go_at_call 47; refine HC.out.mono ?_; rintro r w1 ⟨rfl, ha, hf⟩; have k1 := ha.c1; have k2 := ha.f)
          go_ret
          exact InP_mk (by rw [HQ.out]; rfl) (by rw [HQ.out]) ha.setE (hf.then_ frmOne)
        · have h3' : decide (most < n) = false := by simpa using h3
          have h4 : 65536 < n := by omega
          go_enter Try.func87, Try.ntmps87
          go_wp2_with (go_at_call 47; refine HC.out.mono ?_; rintro r w1 ⟨rfl, ha, hf⟩; have k1 := ha.c1; have k2 := ha.f)
          go_ret
          exact InP_mk (by rw [HQ.out]; rfl) (by rw [HQ.out]) ha.setE (hf.then_ frmOne)
      · rw [if_neg h2] at hq
        have HQ := hid hq
        have h3 : n ≤ most := by omega
        have h4 : n ≤ 65536 := by omega
        have h3' : decide (most < n) = false := by simpa using h3
        clear hq hz h2
        go_enter Try.func87, Try.ntmps87
        go_wp2_with (go_at_call 47; refine HC.out.mono ?_; rintro r w1 ⟨rfl, ha, hf⟩; have k1 := ha.c1; have k2 := ha.f)
        go_ret
        exact InP_mk (by rw [HQ.out]; rfl) (by rw [HQ.out]) ha hf
  · have hn0 := hz he1
    subst hn0
    rw [if_neg he1] at hq
    have HQ := hid hq
    have he' : (e1 == 0) = false := by simpa using he1
    clear hq hz he1
    go_enter Try.func87, Try.ntmps87
    go_wp2_with (go_at_call 47; refine HC.out.mono ?_; rintro r w1 ⟨rfl, ha, hf⟩; have k1 := ha.c1; have k2 := ha.f)
    go_ret
    exact InP_mk (by rw [HQ.out]; rfl) (by rw [HQ.out]) ha hf

set_option maxRecDepth 100000 in
set_option maxHeartbeats 400000 in
theorem ref_text (b : Nat) (s : List UInt8) (e : Int) (w : World) (h : InAt w b s e) (hl : s.length ≤ 281474976710656) :
    Calls Try.prog 48 #[.pointer (some ⟨b, 0, none⟩)] w (InP b w (.string ⟨(Oct.rText s e).1.toArray⟩) (Oct.rText s e).2) := by
  have HC := hid (fun w (h : InAt w b s e) => ref_size b 65536 s e w h hl)
  have hq : Oct.rText s e = if (Oct.rSize 65536 s e).2.2 = 0 then
    (if (Oct.rSize 65536 s e).2.1.length < (Oct.rSize 65536 s e).1.toNat then ([], (Oct.rSize 65536 s e).2.1, 3)
     else ((Oct.rSize 65536 s e).2.1.take (Oct.rSize 65536 s e).1.toNat, (Oct.rSize 65536 s e).2.1.drop (Oct.rSize 65536 s e).1.toNat, 0))
    else ([], (Oct.rSize 65536 s e).2.1, (Oct.rSize 65536 s e).2.2) := rfl
  have hn := rSize_in 65536 s e
  have hsl := rSize_len 65536 s e
  obtain ⟨⟨n, s1, e1⟩, hx⟩ : ∃ x, Oct.rSize 65536 s e = x := ⟨_, rfl⟩
  rw [hx] at hq HC hn hsl
  clear hx
  simp only at hq HC hn hsl
  obtain ⟨hn1, hn2, hn3, -⟩ := hn
  by_cases he1 : e1 = 0
  · subst he1
    clear hn3
    rw [if_pos rfl] at hq
    obtain ⟨m, rfl⟩ := Int.eq_ofNat_of_zero_le hn1
    rw [Int.toNat_natCast] at hq
    by_cases h1 : s1.length < m
    · rw [if_pos h1] at hq
      have HQ := hid hq
      clear hq
      go_enter Try.func48, Try.ntmps48
      go_wp2_with (go_at_call 87; refine (HC.out _ h).mono ?_; rintro r w2 ⟨rfl, ha, hf⟩; have k0 := ha.c0; have k1 := ha.c1; have k2 := ha.f)
      go_ret
      exact InP_mk (by rw [HQ.out]; rfl) (by rw [HQ.out]) ha.setE (hf.then_ frmOne)
    · rw [if_neg h1] at hq
      have HQ := hid hq
      have h1' : m ≤ s1.length := by omega
      have htk : List.take (s1.length - m) (List.drop m s1) = List.drop m s1 := List.take_of_length_le (by simp)
      clear hq h1
      go_enter Try.func48, Try.ntmps48
      go_wp2_with (go_at_call 87; refine (HC.out _ h).mono ?_; rintro r w2 ⟨rfl, ha, hf⟩; have k0 := ha.c0; have k1 := ha.c1; have k2 := ha.f)
      go_ret
      exact InP_mk (by rw [HQ.out]; rfl) (by rw [HQ.out]) ha.setS (hf.then_ frmOne)
  · have hn0 := hn3 he1
    subst hn0
    rw [if_neg he1] at hq
    have HQ := hid hq
    have he' : (e1 == 0) = false := by simpa using he1
    clear hq hn3 he1
    go_enter Try.func48, Try.ntmps48
    go_wp2_with (go_at_call 87; refine (HC.out _ h).mono ?_; rintro r w2 ⟨rfl, ha, hf⟩; have k0 := ha.c0; have k1 := ha.c1; have k2 := ha.f)
    go_ret
    exact InP_mk (by rw [HQ.out]; rfl) (by rw [HQ.out]) ha hf

set_option maxRecDepth 100000 in
set_option maxHeartbeats 400000 in
theorem ref_texts (b : Nat) (most : Int) (s : List UInt8) (e : Int) (w : World) (h : InAt w b s e) (hl : s.length ≤ 281474976710656) :
    Calls Try.prog 49 #[.pointer (some ⟨b, 0, none⟩), .int .i64 most] w (ListP 9 b w (strsV (Oct.rTexts most s e).1) (Oct.rTexts most s e).2) := by
  have HC := hid (fun w (h : InAt w b s e) => ref_size b most s e w h hl)
  have hq : Oct.rTexts most s e = if (Oct.rSize most s e).2.2 = 0 then Oct.nTexts (Oct.rSize most s e).1.toNat (Oct.rSize most s e).2.1 [] else ([], (Oct.rSize most s e).2.1, (Oct.rSize most s e).2.2) := rfl
  have hn := rSize_in most s e
  have hsl := rSize_len most s e
  obtain ⟨⟨n, s1, e1⟩, hx⟩ : ∃ x, Oct.rSize most s e = x := ⟨_, rfl⟩
  rw [hx] at hq HC hn hsl
  clear hx
  simp only at hq HC hn hsl
  obtain ⟨hn1, hn2, hn3, -⟩ := hn
  by_cases he1 : e1 = 0
  · subst he1
    rw [if_pos rfl] at hq
    obtain ⟨m, rfl⟩ := Int.eq_ofNat_of_zero_le hn1
    rw [Int.toNat_natCast] at hq
    have HQ := hid hq
    clear hn3 hq hn1
    have hm : m ≤ 65536 := by omega
    clear hn2
    obtain ⟨i0, hi, hz0, hz1, hz2⟩ := info_parts info_string
    go_enter Try.func49, Try.ntmps49
    go_wp2_with (go_at_call 87; refine (HC.out _ h).mono ?_; rintro r w2 ⟨rfl, ha, hf⟩)
    go_loopw [6, 7] (fun v i wr => ∃ (k : Nat) (sk : List UInt8) (ek : Int) (acc : List (List UInt8)), k ≤ m ∧ i = .int .i64 (k : Int) ∧ acc.length = k ∧ sk.length ≤ 281474976710656 ∧ InAt wr b sk ek ∧ wr.ownsRow w.heap.size 9 1 v acc.length (strsV acc) ∧ Frm (One b) w wr ∧ ((ek = 0 ∧ Oct.nTexts (m - k) sk acc = Oct.rTexts most s e) ∨ (ek ≠ 0 ∧ Oct.rTexts most s e = ([], sk, ek))))
      (fun _ i _ => m - (intOf i).toNat)
    case atStart => exact ⟨0, s1, 0, [], by omega, rfl, rfl, by omega, ha, World.ownsRow_nil _ _ _ _, hf, Or.inl ⟨rfl, HQ.out.symm⟩⟩
    case round =>
      obtain ⟨k, sk, ek, acc, hk, rfl, hacc, hsk, hak, hown, hfk, hrun⟩ := hrel
      have hlt := h.lt
      have hapb : u6.ownBlock ≠ some b := fun e => by have := (hown.lt b e).1; omega
      have HACC := hid hacc
      have haccle : acc.length ≤ 65536 := by omega
      clear hacc
      have k1 := hak.c1
      rcases hrun with ⟨rfl, hrun⟩ | ⟨hek, hrun⟩
      · have HRUN := hid hrun
        clear hrun
        by_cases hkm : k < m
        · have hnx : Oct.nTexts (m - k) sk acc = if (Oct.rText sk 0).2.2 = 0 then Oct.nTexts (m - (k + 1)) (Oct.rText sk 0).2.1 (acc ++ [(Oct.rText sk 0).1]) else ([], (Oct.rText sk 0).2.1, (Oct.rText sk 0).2.2) := by
            rw [show m - k = (m - (k + 1)) + 1 by omega]; rfl
          have HI := hid (ref_text b sk 0 wr hak hsk)
          have hrl := (rText_len sk 0).1
          obtain ⟨⟨x, s2, e2⟩, hx⟩ : ∃ x, Oct.rText sk 0 = x := ⟨_, rfl⟩
          rw [hx] at hnx HI hrl
          simp only at hnx HI hrl
          clear hx
          have HNX := hid hnx
          clear hnx
          go_wp2_with (first | (go_at_call 48; refine HI.out.mono ?_; rintro r w3 ⟨rfl, ha3, hf3⟩; have hown3 := hf3.row hown (fun k hk e => hapb (hk.trans (congrArg some e))); have hsz3 := hf3.size; have hszk := hfk.size) | (at_builtin; refine wpList_push1 _ rfl _ _ 46 rfl w.heap.size 9 i0 _ 16 Try.underlying46 hi hz0 hz1 hz2 rfl u6 acc.length (strsV acc) rfl hown3 _ rfl rfl (by omega) (by omega) (by omega) ?_; intro v4 w4 hown4 hf4 hv4 hs4; have ha4 := ha3.frm hf4 hapb))
          refine ⟨⟨k + 1, s2, e2, acc ++ [x], by omega, by go_num, by simp [HACC.out], by omega, ha4, ?_, ?_, ?_⟩, by simp [intOf]; omega⟩
          · simpa [strsV] using hown4
          · refine (hfk.then_ hf3).trans hf4 (fun _ _ h => h) (fun i hi h => ?_)
            have := (hown3.lt i h).1
            omega
          · by_cases he2 : e2 = 0
            · exact Or.inl ⟨he2, by rw [← HRUN.out, HNX.out, if_pos he2]⟩
            · exact Or.inr ⟨he2, by rw [← HRUN.out, HNX.out, if_neg he2]⟩
        · obtain rfl : k = m := by omega
          go_wp2_with fail
          go_ret
          refine ListP_mk rfl (x := Oct.rTexts most s e) (l := acc) (s := sk) (e := 0) ?_ hown hak hfk
          rw [← HRUN.out, Nat.sub_self]
          rfl
      · have HRUN := hid hrun
        have he' : (ek == 0) = false := by simpa using hek
        clear hrun hek
        by_cases hkm : k < m
        all_goals
          go_wp2_with fail
          go_ret
          exact ListP_mk (v := .slice none 0 0) rfl (x := Oct.rTexts most s e) (l := []) HRUN.out (World.ownsRow_nil _ _ _ _) hak hfk
  · have hn0 := hn3 he1
    subst hn0
    rw [if_neg he1] at hq
    have HQ := hid hq
    have he' : (e1 == 0) = false := by simpa using he1
    clear hq hn3 hn1 hn2 he1
    go_enter Try.func49, Try.ntmps49
    go_wp2_with (go_at_call 87; refine (HC.out _ h).mono ?_; rintro r w2 ⟨rfl, ha, hf⟩)
    go_loopw [6, 7] (fun v i wr => i = .int .i64 0 ∧ v = .slice none 0 0 ∧ InAt wr b s1 e1 ∧ Frm (One b) w wr) (fun _ i _ => 0)
    case atStart => exact ⟨rfl, rfl, ha, hf⟩
    case round =>
      obtain ⟨rfl, rfl, hak, hfk⟩ := hrel
      have k1 := hak.c1
      go_wp2_with fail
      go_ret
      exact ListP_mk (v := .slice none 0 0) rfl (x := Oct.rTexts most s e) (l := []) HQ.out (World.ownsRow_nil _ _ _ _) hak hfk

end Go.Proofs.Ytekailaoanpcgaa
