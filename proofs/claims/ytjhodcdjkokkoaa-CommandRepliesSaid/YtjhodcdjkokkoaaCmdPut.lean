/- The walk of command.Put. -/
import Derived.Test.YtjhodcdjkokkoaaCmdG2
import Derived.Test.YtjhodcdjkokkoaaChain
namespace Go.Proofs.Ytjhodcdjkokkoaa
open Go.RowKit

theorem Cmd.small_of {c : Cm} (h : Cmd.good c = true) : Cmd.small c := by
  obtain ⟨-, h1, h2, h3, h4, h5, h6, -⟩ := Cmd.good_parts h
  have := (Cmd.gn_len h1).2
  have := Cmd.gnm_len h2
  have := Cmd.gnm_len h3
  exact ⟨by omega, by omega, by omega, by omega, by omega, fun s hs => by have := h6 s hs; omega⟩

set_option maxRecDepth 100000 in
set_option maxHeartbeats 4000000 in
theorem cput_any (c : Cm) (wv : Value) (w : World) (hsm : Cmd.small c) (hr : Rd w wv c.word.length 1 (strsV c.word)) :
    Calls Try.prog 10 #[cmV c wv] w fun e w' => e = .returned (.string ⟨(Cmd.put c).toArray⟩) ∧ Frm No w w' := by
  have HG := hid (fun w1 (hf : Frm No w w1) => cgood_any c wv w1 hsm (hr.frm hf (fun _ _ h => h)))
  cases hgood : Cmd.good c
  · rw [hgood] at HG
    have hput : Cmd.put c = [] := by rw [Cmd.put, hgood]; rfl
    rw [hput]
    clear hr hsm hgood hput
    unfold cmV at *
    go_enter Try.func10, Try.ntmps10
    go_wp2_with (go_at_call 11; refine (HG.out _ ((Frm.refl No w).alloc _)).mono ?_; rintro e1 w1 ⟨rfl, hf1⟩; have hf1' := ((Frm.refl No w).alloc _).thenNo hf1)
    go_ret
    exact ⟨rfl, hf1'⟩
  · have hp := Cmd.good_parts hgood
    have e1 := Cmd.enc_small (n := c.kind) (by omega) (by omega)
    obtain ⟨hk, h1, h2, h3, h4, h5, h6, g0, g1, g2, g3⟩ := hp
    replace h1 := (Cmd.gn_len h1).2
    replace h2 := Cmd.gnm_len h2
    replace h3 := Cmd.gnm_len h3
    have hb : Oct.badTexts c.word = false := by
      simp only [Oct.badTexts, List.any_eq_false, decide_eq_true_eq]
      intro s hs
      have := h6 s hs
      omega
    have z0 := Cmd.enc_num g0
    have z1 := Cmd.enc_num g1
    have z2 := Cmd.enc_num g2
    have z3 := Cmd.enc_num g3
    have HRD := hid (fun w1 (hf : Frm No w w1) => hr.frm hf (fun _ _ h => h))
    have HI := hid (fun (w0 w1 : World) (B : Nat) (v : Value) (l : List UInt8) (N : Nat) (h : Chain w0 w1 B v l N) (hN : N ≤ 70368744177664) => h.int c.kind hN e1)
    have HT1 := hid (fun (w0 w1 : World) (B : Nat) (v : Value) (l : List UInt8) (N : Nat) (h : Chain w0 w1 B v l N) (hN : N ≤ 70368744177664) => h.text c.who hN (by omega))
    have HT2 := hid (fun (w0 w1 : World) (B : Nat) (v : Value) (l : List UInt8) (N : Nat) (h : Chain w0 w1 B v l N) (hN : N ≤ 70368744177664) => h.text c.name hN (by omega))
    have HT3 := hid (fun (w0 w1 : World) (B : Nat) (v : Value) (l : List UInt8) (N : Nat) (h : Chain w0 w1 B v l N) (hN : N ≤ 70368744177664) => h.text c.other hN (by omega))
    have HT4 := hid (fun (w0 w1 : World) (B : Nat) (v : Value) (l : List UInt8) (N : Nat) (h : Chain w0 w1 B v l N) (hN : N ≤ 70368744177664) => h.text c.text hN h4)
    have HTS := hid (fun (w0 w1 : World) (B : Nat) (v : Value) (l : List UInt8) (N : Nat) (h : Chain w0 w1 B v l N) (hN : N ≤ 17592186044416) (hr : Rd w0 wv c.word.length 1 (strsV c.word)) => h.texts wv c.word hN (by omega) hb hr)
    have HN0 := hid (fun (w0 w1 : World) (B : Nat) (v : Value) (l : List UInt8) (N : Nat) (h : Chain w0 w1 B v l N) (hN : N ≤ 70368744177664) => h.int c.n0 hN z0)
    have HN1 := hid (fun (w0 w1 : World) (B : Nat) (v : Value) (l : List UInt8) (N : Nat) (h : Chain w0 w1 B v l N) (hN : N ≤ 70368744177664) => h.int c.n1 hN z1)
    have HN2 := hid (fun (w0 w1 : World) (B : Nat) (v : Value) (l : List UInt8) (N : Nat) (h : Chain w0 w1 B v l N) (hN : N ≤ 70368744177664) => h.int c.n2 hN z2)
    have HN3 := hid (fun (w0 w1 : World) (B : Nat) (v : Value) (l : List UInt8) (N : Nat) (h : Chain w0 w1 B v l N) (hN : N ≤ 70368744177664) => h.int c.n3 hN z3)
    rw [hgood] at HG
    have hput : Cmd.put c = Cmd.enc c := by rw [Cmd.put, hgood]; rfl
    rw [hput]
    clear hput
    obtain ⟨R, hR⟩ : ∃ R, Cmd.enc c = R := ⟨_, rfl⟩
    rw [hR]
    have hput := hid hR.symm
    clear hR
    unfold Cmd.enc at hput
    clear hsm hgood hb h4 h5 h6 e1 g0 g1 g2 g3 z0 z1 z2 z3 h1 h2 h3 hk
    obtain ⟨ao, cp, rfl⟩ := hr.shape
    clear hr
    unfold cmV at *
    obtain ⟨k, who, name, other, text, word, n0, n1, n2, n3⟩ := c
    dsimp only at *
    have i0 := hid (fun w => arr4_0 n0 n1 n2 n3 w)
    have i1 := hid (fun w => arr4_1 n0 n1 n2 n3 w)
    have i2 := hid (fun w => arr4_2 n0 n1 n2 n3 w)
    have i3 := hid (fun w => arr4_3 n0 n1 n2 n3 w)
    go_enter Try.func10, Try.ntmps10
    go_wp2_with (first | (go_at_call 26; refine (HTS.out _ _ _ _ _ _ c6 (by omega) (HRD.out _ hfa)).mono ?_; rintro e2 w7 ⟨rfl, v7, c7⟩; have q7 := c7.frm.box) | (go_at_call 25; refine (HT4.out _ _ _ _ _ _ c5 (by omega)).mono ?_; rintro e2 w6 ⟨rfl, v6, c6⟩; have q6 := c6.frm.box) | (go_at_call 25; refine (HT3.out _ _ _ _ _ _ c4 (by omega)).mono ?_; rintro e2 w5 ⟨rfl, v5, c5⟩; have q5 := c5.frm.box) | (go_at_call 25; refine (HT2.out _ _ _ _ _ _ c3 (by omega)).mono ?_; rintro e2 w4 ⟨rfl, v4, c4⟩; have q4 := c4.frm.box) | (go_at_call 25; refine (HT1.out _ _ _ _ _ _ c2 (by omega)).mono ?_; rintro e2 w3 ⟨rfl, v3, c3⟩; have q3 := c3.frm.box) | (go_at_call 24; refine (HI.out _ _ _ _ _ _ c1 (by omega)).mono ?_; rintro e2 w2 ⟨rfl, v2, c2⟩; have q2 := c2.frm.box) | (go_at_call 11; refine (HG.out _ ((Frm.refl No w).alloc _)).mono ?_; rintro e1 w1 ⟨rfl, hf1⟩; have q1 := fun o => (hf1.alloc o).box; have c1 := Chain.new hf1 63; have hfa := (Frm.refl No w).alloc (.cells #[.int .i64 k, .string ⟨who.toArray⟩, .string ⟨name.toArray⟩, .string ⟨other.toArray⟩, .string ⟨text.toArray⟩, .slice ao word.length cp, .int .i64 n0, .int .i64 n1, .int .i64 n2, .int .i64 n3] 28)))
    obtain ⟨L, hL⟩ : ∃ L, [] ++ Oct.enc k ++ Oct.text who ++ Oct.text name ++ Oct.text other ++ Oct.text text ++ (Oct.enc word.length ++ Oct.texts word) = L := ⟨_, rfl⟩
    rw [hL] at c7
    have hR : Hid (R = L ++ (Oct.enc n0 ++ (Oct.enc n1 ++ (Oct.enc n2 ++ Oct.enc n3)))) := by
      refine hid ?_
      have hL2 := hput.out
      rw [List.nil_append] at hL
      rw [← hL, hL2]
      simp only [List.append_assoc]
    have c7' : ∃ v N, N ≤ 5000000000 ∧ Chain (w.alloc (.cells #[.int .i64 k, .string ⟨who.toArray⟩, .string ⟨name.toArray⟩, .string ⟨other.toArray⟩, .string ⟨text.toArray⟩, .slice ao word.length cp, .int .i64 n0, .int .i64 n1, .int .i64 n2, .int .i64 n3] 28)) w7 w1.heap.size v L N := ⟨_, _, by omega, c7⟩
    clear hput hL HI HT1 HT2 HT3 HT4 HTS HG HRD q1 q2 q3 q4 q5 q6 q7 c1 c2 c3 c4 c5 c6 c7 hfa
    go_loopw [31] (fun i wr => (i = .int .i64 0 ∧ ∃ v N, N ≤ 5000000000 ∧ Chain (w.alloc (.cells #[.int .i64 k, .string ⟨who.toArray⟩, .string ⟨name.toArray⟩, .string ⟨other.toArray⟩, .string ⟨text.toArray⟩, .slice ao word.length cp, .int .i64 n0, .int .i64 n1, .int .i64 n2, .int .i64 n3] 28)) wr w1.heap.size v (L) N) ∨ (i = .int .i64 1 ∧ ∃ v N, N ≤ 5000000008 ∧ Chain (w.alloc (.cells #[.int .i64 k, .string ⟨who.toArray⟩, .string ⟨name.toArray⟩, .string ⟨other.toArray⟩, .string ⟨text.toArray⟩, .slice ao word.length cp, .int .i64 n0, .int .i64 n1, .int .i64 n2, .int .i64 n3] 28)) wr w1.heap.size v (L ++ Oct.enc n0) N) ∨ (i = .int .i64 2 ∧ ∃ v N, N ≤ 5000000016 ∧ Chain (w.alloc (.cells #[.int .i64 k, .string ⟨who.toArray⟩, .string ⟨name.toArray⟩, .string ⟨other.toArray⟩, .string ⟨text.toArray⟩, .slice ao word.length cp, .int .i64 n0, .int .i64 n1, .int .i64 n2, .int .i64 n3] 28)) wr w1.heap.size v (L ++ Oct.enc n0 ++ Oct.enc n1) N) ∨ (i = .int .i64 3 ∧ ∃ v N, N ≤ 5000000024 ∧ Chain (w.alloc (.cells #[.int .i64 k, .string ⟨who.toArray⟩, .string ⟨name.toArray⟩, .string ⟨other.toArray⟩, .string ⟨text.toArray⟩, .slice ao word.length cp, .int .i64 n0, .int .i64 n1, .int .i64 n2, .int .i64 n3] 28)) wr w1.heap.size v (L ++ Oct.enc n0 ++ Oct.enc n1 ++ Oct.enc n2) N) ∨ (i = .int .i64 4 ∧ ∃ v N, N ≤ 5000000032 ∧ Chain (w.alloc (.cells #[.int .i64 k, .string ⟨who.toArray⟩, .string ⟨name.toArray⟩, .string ⟨other.toArray⟩, .string ⟨text.toArray⟩, .slice ao word.length cp, .int .i64 n0, .int .i64 n1, .int .i64 n2, .int .i64 n3] 28)) wr w1.heap.size v (L ++ Oct.enc n0 ++ Oct.enc n1 ++ Oct.enc n2 ++ Oct.enc n3) N)) (fun i _ => 4 - (intOf i).toNat)
    case atStart => exact .inl ⟨rfl, c7'⟩
    case round =>
      clear c7'
      rcases hrel with ⟨rfl, v, N, hN, c⟩ | ⟨rfl, v, N, hN, c⟩ | ⟨rfl, v, N, hN, c⟩ | ⟨rfl, v, N, hN, c⟩ | ⟨rfl, v, N, hN, c⟩
      · replace i0 := i0.out
        go_wp2_with (go_at_call 24; refine (HN0.out _ _ _ _ _ _ c (by omega)).mono ?_; rintro e2 w2 ⟨rfl, v2, c9⟩)
        exact ⟨.inr (.inl ⟨by go_num, _, _, by omega, c9⟩), by simp [intOf]⟩
      · replace i1 := i1.out
        go_wp2_with (go_at_call 24; refine (HN1.out _ _ _ _ _ _ c (by omega)).mono ?_; rintro e2 w2 ⟨rfl, v2, c9⟩)
        exact ⟨.inr (.inr (.inl ⟨by go_num, _, _, by omega, c9⟩)), by simp [intOf]⟩
      · replace i2 := i2.out
        go_wp2_with (go_at_call 24; refine (HN2.out _ _ _ _ _ _ c (by omega)).mono ?_; rintro e2 w2 ⟨rfl, v2, c9⟩)
        exact ⟨.inr (.inr (.inr (.inl ⟨by go_num, _, _, by omega, c9⟩))), by simp [intOf]⟩
      · replace i3 := i3.out
        go_wp2_with (go_at_call 24; refine (HN3.out _ _ _ _ _ _ c (by omega)).mono ?_; rintro e2 w2 ⟨rfl, v2, c9⟩)
        exact ⟨.inr (.inr (.inr (.inr (⟨by go_num, _, _, by omega, c9⟩)))), by simp [intOf]⟩
      · go_wp2_with (go_at_call 27; refine c.bytes.mono ?_; rintro e2 w2 ⟨rfl, rfl⟩)
        rw [hR.out]
        go_ret
        exact ⟨rfl, ((Frm.refl No w).alloc _).thenNo c.frm⟩
end Go.Proofs.Ytjhodcdjkokkoaa
