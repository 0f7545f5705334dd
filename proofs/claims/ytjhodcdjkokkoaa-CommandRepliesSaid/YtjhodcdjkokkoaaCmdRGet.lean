/- The walk of the reference's Get of a command. -/
import Derived.Test.YtjhodcdjkokkoaaStore10
import Derived.Deep.RegionHeld3
import Derived.Test.YtjhodcdjkokkoaaCmdG3
namespace Go.Proofs.Ytjhodcdjkokkoaa
open Go.RowKit

set_option maxRecDepth 100000 in
set_option maxHeartbeats 4000000 in
theorem rcget_any (s : List UInt8) (w : World) (hl : s.length ≤ 281474976710656) :
    Calls Try.prog 16 #[.string ⟨s.toArray⟩] w fun e w' => ∃ wv, e = .returned (.tuple #[cmV (Cmd.get s).1 wv, .int .i64 (Cmd.get s).2]) ∧ Rd w' wv (Cmd.get s).1.word.length 1 (strsV (Cmd.get s).1.word) ∧ Frm No w w' := by
  obtain ⟨⟨k0, s0, e0⟩, h0⟩ : ∃ x, Oct.rInt s 0 = x := ⟨_, rfl⟩
  obtain ⟨⟨a, s1, e1⟩, h1⟩ : ∃ x, Oct.rText s0 e0 = x := ⟨_, rfl⟩
  obtain ⟨⟨b0, s2, e2⟩, h2⟩ : ∃ x, Oct.rText s1 e1 = x := ⟨_, rfl⟩
  obtain ⟨⟨o, s3, e3⟩, h3⟩ : ∃ x, Oct.rText s2 e2 = x := ⟨_, rfl⟩
  obtain ⟨⟨d, s4, e4⟩, h4⟩ : ∃ x, Oct.rText s3 e3 = x := ⟨_, rfl⟩
  obtain ⟨⟨ws, s5, e5⟩, h5⟩ : ∃ x, Oct.rTexts 64 s4 e4 = x := ⟨_, rfl⟩
  obtain ⟨⟨n0, s6, e6⟩, h6⟩ : ∃ x, Oct.rInt s5 e5 = x := ⟨_, rfl⟩
  obtain ⟨⟨n1, s7, e7⟩, h7⟩ : ∃ x, Oct.rInt s6 e6 = x := ⟨_, rfl⟩
  obtain ⟨⟨n2, s8, e8⟩, h8⟩ : ∃ x, Oct.rInt s7 e7 = x := ⟨_, rfl⟩
  obtain ⟨⟨n3, s9, e9⟩, h9⟩ : ∃ x, Oct.rInt s8 e8 = x := ⟨_, rfl⟩
  have hget : Cmd.get s = Cmd.fin (⟨k0, a, b0, o, d, ws, n0, n1, n2, n3⟩, s9, e9) := by rw [Cmd.get, Cmd.rd_of h0 h1 h2 h3 h4 h5 h6 h7 h8 h9]
  have la := (rText_len s0 e0).2
  have lb := (rText_len s1 e1).2
  have lo := (rText_len s2 e2).2
  have ld := (rText_len s3 e3).2
  have lw := rTexts_small 64 s4 e4
  rw [h1] at la
  rw [h2] at lb
  rw [h3] at lo
  rw [h4] at ld
  rw [h5] at lw
  have HG := hid (fun wv w1 (hlw : ws.length ≤ 9223372036854775807) (hr : Rd w1 wv ws.length 1 (strsV ws)) => rgood_any ⟨k0, a, b0, o, d, ws, n0, n1, n2, n3⟩ wv w1 ⟨Nat.le_trans la (by decide), Nat.le_trans lb (by decide), Nat.le_trans lo (by decide), Nat.le_trans ld (by decide), hlw, fun x hx => Nat.le_trans (lw x hx) (by decide)⟩ hr)
  clear la lb lo ld lw
  generalize Cmd.get s = R at *
  replace hget : Hid (R = Cmd.fin (⟨k0, a, b0, o, d, ws, n0, n1, n2, n3⟩, s9, e9)) := hget
  have HI0 := hid (fun (w1 : World) (b : Nat) (h : InAt w1 b s 0) => rint0 h hl h0)
  have HI1 := hid (fun (w0 wS w1 : World) (b C : Nat) (h : Rdr w0 wS w1 b s0 e0 C [.int .i64 k0, .string ⟨#[]⟩, .string ⟨#[]⟩, .string ⟨#[]⟩, .string ⟨#[]⟩, .slice none 0 0, .int .i64 0, .int .i64 0, .int .i64 0, .int .i64 0]) => h.rtext h1)
  have HI2 := hid (fun (w0 wS w1 : World) (b C : Nat) (h : Rdr w0 wS w1 b s1 e1 C [.int .i64 k0, .string ⟨a.toArray⟩, .string ⟨#[]⟩, .string ⟨#[]⟩, .string ⟨#[]⟩, .slice none 0 0, .int .i64 0, .int .i64 0, .int .i64 0, .int .i64 0]) => h.rtext h2)
  have HI3 := hid (fun (w0 wS w1 : World) (b C : Nat) (h : Rdr w0 wS w1 b s2 e2 C [.int .i64 k0, .string ⟨a.toArray⟩, .string ⟨b0.toArray⟩, .string ⟨#[]⟩, .string ⟨#[]⟩, .slice none 0 0, .int .i64 0, .int .i64 0, .int .i64 0, .int .i64 0]) => h.rtext h3)
  have HI4 := hid (fun (w0 wS w1 : World) (b C : Nat) (h : Rdr w0 wS w1 b s3 e3 C [.int .i64 k0, .string ⟨a.toArray⟩, .string ⟨b0.toArray⟩, .string ⟨o.toArray⟩, .string ⟨#[]⟩, .slice none 0 0, .int .i64 0, .int .i64 0, .int .i64 0, .int .i64 0]) => h.rtext h4)
  have HI5 := hid (fun (w0 wS w1 : World) (b C : Nat) (h : Rdr w0 wS w1 b s4 e4 C [.int .i64 k0, .string ⟨a.toArray⟩, .string ⟨b0.toArray⟩, .string ⟨o.toArray⟩, .string ⟨d.toArray⟩, .slice none 0 0, .int .i64 0, .int .i64 0, .int .i64 0, .int .i64 0]) => h.rtexts h5)
  have HI6 := hid (fun (w0 wS w1 : World) (b C : Nat) (wv : Value) (h : Rdr w0 wS w1 b s5 e5 C [.int .i64 k0, .string ⟨a.toArray⟩, .string ⟨b0.toArray⟩, .string ⟨o.toArray⟩, .string ⟨d.toArray⟩, wv, .int .i64 0, .int .i64 0, .int .i64 0, .int .i64 0]) => h.rint h6)
  have HI7 := hid (fun (w0 wS w1 : World) (b C : Nat) (wv : Value) (h : Rdr w0 wS w1 b s6 e6 C [.int .i64 k0, .string ⟨a.toArray⟩, .string ⟨b0.toArray⟩, .string ⟨o.toArray⟩, .string ⟨d.toArray⟩, wv, .int .i64 n0, .int .i64 0, .int .i64 0, .int .i64 0]) => h.rint h7)
  have HI8 := hid (fun (w0 wS w1 : World) (b C : Nat) (wv : Value) (h : Rdr w0 wS w1 b s7 e7 C [.int .i64 k0, .string ⟨a.toArray⟩, .string ⟨b0.toArray⟩, .string ⟨o.toArray⟩, .string ⟨d.toArray⟩, wv, .int .i64 n0, .int .i64 n1, .int .i64 0, .int .i64 0]) => h.rint h8)
  have HI9 := hid (fun (w0 wS w1 : World) (b C : Nat) (wv : Value) (h : Rdr w0 wS w1 b s8 e8 C [.int .i64 k0, .string ⟨a.toArray⟩, .string ⟨b0.toArray⟩, .string ⟨o.toArray⟩, .string ⟨d.toArray⟩, wv, .int .i64 n0, .int .i64 n1, .int .i64 n2, .int .i64 0]) => h.rint h9)
  clear h0 h1 h2 h3 h4 h5 h6 h7 h8 h9
  unfold cmV at *
  go_enter Try.func16, Try.ntmps16
  go_wp2_with (first | (go_at_call 45; refine (HI5.out _ _ _ _ _ (r6.set 4 (by simp) _)).mono ?_; rintro q7 w7 ⟨wv, rfl, hown, r7, hap⟩; obtain ⟨ao, cp, hwv⟩ := ownsRow_shape hown; subst hwv; have c7 := r7.cell; have f7 := r7.fr) | (go_at_call 44; refine (HI4.out _ _ _ _ _ (r5.set 3 (by simp) _)).mono ?_; rintro q6 w6 ⟨rfl, r6⟩; have c6 := r6.cell; have f6 := r6.fr) | (go_at_call 44; refine (HI3.out _ _ _ _ _ (r4.set 2 (by simp) _)).mono ?_; rintro q5 w5 ⟨rfl, r5⟩; have c5 := r5.cell; have f5 := r5.fr) | (go_at_call 44; refine (HI2.out _ _ _ _ _ (r3.set 1 (by simp) _)).mono ?_; rintro q4 w4 ⟨rfl, r4⟩; have c4 := r4.cell; have f4 := r4.fr) | (go_at_call 44; refine (HI1.out _ _ _ _ _ (Rdr.begin2 hin hl0 hf1 [.int .i64 k0, .string ⟨#[]⟩, .string ⟨#[]⟩, .string ⟨#[]⟩, .string ⟨#[]⟩, .slice none 0 0, .int .i64 0, .int .i64 0, .int .i64 0, .int .i64 0] 29)).mono ?_; rintro q3 w3 ⟨rfl, r3⟩; have c3 := r3.cell; have f3 := r3.fr) | (go_at_call 43; refine (HI0.out _ _ (InAt.new2 _ _ _ _)).mono ?_; rintro q2 w1 ⟨rfl, hin, hf1, hl0⟩) | (go_at_call 36; refine (in_open s _).mono ?_; rintro q1 w1 ⟨b, rfl, hb, hin, hf1⟩))
  have hwl : ws.length ≤ 9223372036854775807 := by
    have h2 := ownsRow_max hown
    simpa using h2
  have hlen : (strsV ws).length = ws.length := by simp
  have r8 := (r7.set 5 (by simp) (.slice ao (strsV ws).length cp)).restart
  have hrd : Rd (w7.setCell ⟨w1.heap.size, 5, none⟩ (.slice ao (strsV ws).length cp)) (.slice ao (strsV ws).length cp) (strsV ws).length 1 (strsV ws) :=
    (Rd.ofOwn hown).frm (S := One w1.heap.size) (setCell_none _) (fun k hk h => hap k hk (.inr h))
  have hwR : ∀ k, (Value.slice ao (strsV ws).length cp).ownBlock = some k → ¬ One w.heap.size k := fun k hk e => by
    have h1 := (hown.lt k hk).1
    have h2 := r6.frm.size
    have e : k = w.heap.size := e
    simp at h1 h2
    omega
  rw [hlen] at r8 hrd hap hwR
  clear r3 r4 r5 r6 r7 c3 c4 c5 c6 c7 f3 f4 f5 f6 f7 hown
  go_loopw [6] (fun i wr => (i = .int .i64 0 ∧ Rdr (w.alloc (.cells #[.int .i64 0, .string ⟨#[]⟩, .string ⟨#[]⟩, .string ⟨#[]⟩, .string ⟨#[]⟩, .slice none 0 0, .int .i64 0, .int .i64 0, .int .i64 0, .int .i64 0] 29)) (w7.setCell ⟨w1.heap.size, 5, none⟩ (.slice ao ws.length cp)) wr (w.heap.size + 1) s5 e5 w1.heap.size [.int .i64 k0, .string ⟨a.toArray⟩, .string ⟨b0.toArray⟩, .string ⟨o.toArray⟩, .string ⟨d.toArray⟩, .slice ao ws.length cp, .int .i64 0, .int .i64 0, .int .i64 0, .int .i64 0]) ∨ (i = .int .i64 1 ∧ Rdr (w.alloc (.cells #[.int .i64 0, .string ⟨#[]⟩, .string ⟨#[]⟩, .string ⟨#[]⟩, .string ⟨#[]⟩, .slice none 0 0, .int .i64 0, .int .i64 0, .int .i64 0, .int .i64 0] 29)) (w7.setCell ⟨w1.heap.size, 5, none⟩ (.slice ao ws.length cp)) wr (w.heap.size + 1) s6 e6 w1.heap.size [.int .i64 k0, .string ⟨a.toArray⟩, .string ⟨b0.toArray⟩, .string ⟨o.toArray⟩, .string ⟨d.toArray⟩, .slice ao ws.length cp, .int .i64 n0, .int .i64 0, .int .i64 0, .int .i64 0]) ∨ (i = .int .i64 2 ∧ Rdr (w.alloc (.cells #[.int .i64 0, .string ⟨#[]⟩, .string ⟨#[]⟩, .string ⟨#[]⟩, .string ⟨#[]⟩, .slice none 0 0, .int .i64 0, .int .i64 0, .int .i64 0, .int .i64 0] 29)) (w7.setCell ⟨w1.heap.size, 5, none⟩ (.slice ao ws.length cp)) wr (w.heap.size + 1) s7 e7 w1.heap.size [.int .i64 k0, .string ⟨a.toArray⟩, .string ⟨b0.toArray⟩, .string ⟨o.toArray⟩, .string ⟨d.toArray⟩, .slice ao ws.length cp, .int .i64 n0, .int .i64 n1, .int .i64 0, .int .i64 0]) ∨ (i = .int .i64 3 ∧ Rdr (w.alloc (.cells #[.int .i64 0, .string ⟨#[]⟩, .string ⟨#[]⟩, .string ⟨#[]⟩, .string ⟨#[]⟩, .slice none 0 0, .int .i64 0, .int .i64 0, .int .i64 0, .int .i64 0] 29)) (w7.setCell ⟨w1.heap.size, 5, none⟩ (.slice ao ws.length cp)) wr (w.heap.size + 1) s8 e8 w1.heap.size [.int .i64 k0, .string ⟨a.toArray⟩, .string ⟨b0.toArray⟩, .string ⟨o.toArray⟩, .string ⟨d.toArray⟩, .slice ao ws.length cp, .int .i64 n0, .int .i64 n1, .int .i64 n2, .int .i64 0]) ∨ (i = .int .i64 4 ∧ Rdr (w.alloc (.cells #[.int .i64 0, .string ⟨#[]⟩, .string ⟨#[]⟩, .string ⟨#[]⟩, .string ⟨#[]⟩, .slice none 0 0, .int .i64 0, .int .i64 0, .int .i64 0, .int .i64 0] 29)) (w7.setCell ⟨w1.heap.size, 5, none⟩ (.slice ao ws.length cp)) wr (w.heap.size + 1) s9 e9 w1.heap.size [.int .i64 k0, .string ⟨a.toArray⟩, .string ⟨b0.toArray⟩, .string ⟨o.toArray⟩, .string ⟨d.toArray⟩, .slice ao ws.length cp, .int .i64 n0, .int .i64 n1, .int .i64 n2, .int .i64 n3])) (fun i _ => 4 - (intOf i).toNat)
  case atStart => exact .inl ⟨rfl, r8⟩
  case round =>
    clear r8
    rcases hrel with ⟨rfl, r⟩ | ⟨rfl, r⟩ | ⟨rfl, r⟩ | ⟨rfl, r⟩ | ⟨rfl, r⟩
    · have c8 := r.cell
      have f8 := r.fr
      go_wp2_with (go_at_call 43; refine (HI6.out _ _ _ _ _ _ r).mono ?_; rintro q1 w2 ⟨rfl, r2⟩; have c9 := r2.cell; have f9 := r2.fr)
      exact ⟨.inr (.inl ⟨by go_num, r2.set 6 (by simp) _⟩), by simp [intOf]⟩
    · have c8 := r.cell
      have f8 := r.fr
      go_wp2_with (go_at_call 43; refine (HI7.out _ _ _ _ _ _ r).mono ?_; rintro q1 w2 ⟨rfl, r2⟩; have c9 := r2.cell; have f9 := r2.fr)
      exact ⟨.inr (.inr (.inl ⟨by go_num, r2.set 7 (by simp) _⟩)), by simp [intOf]⟩
    · have c8 := r.cell
      have f8 := r.fr
      go_wp2_with (go_at_call 43; refine (HI8.out _ _ _ _ _ _ r).mono ?_; rintro q1 w2 ⟨rfl, r2⟩; have c9 := r2.cell; have f9 := r2.fr)
      exact ⟨.inr (.inr (.inr (.inl ⟨by go_num, r2.set 8 (by simp) _⟩))), by simp [intOf]⟩
    · have c8 := r.cell
      have f8 := r.fr
      go_wp2_with (go_at_call 43; refine (HI9.out _ _ _ _ _ _ r).mono ?_; rintro q1 w2 ⟨rfl, r2⟩; have c9 := r2.cell; have f9 := r2.fr)
      exact ⟨.inr (.inr (.inr (.inr (⟨by go_num, r2.set 9 (by simp) _⟩)))), by simp [intOf]⟩
    · have cR := r.frm.box
      have fR := bx_frozen r.frm
      have c8 := r.cell
      have hin9 := r.in_
      have p0 := hin9.c0
      have p1 := hin9.c1
      have hrd9 := hrd.frm r.mov hap
      clear hrd HI0 HI1 HI2 HI3 HI4 HI5 HI6 HI7 HI8 HI9
      by_cases he : e9 = 0
      · subst he
        replace HG := hid (HG.out _ _ hwl hrd9)
        cases hg : Cmd.good ⟨k0, a, b0, o, d, ws, n0, n1, n2, n3⟩
        · rw [hg] at HG
          obtain rfl : R = (Cmd.none_, 2) := by rw [hget.out]; exact Cmd.fin_form hg
          clear hget hg
          go_wp2_with (first | (go_at_call 40; refine (in_err _ _ _ _ hin9).mono ?_; rintro q1 w2 ⟨rfl, rfl⟩) | (go_at_call 12; refine HG.out.mono ?_; rintro q2 w3 ⟨rfl, hf3⟩; have r3 := r.no hf3; have cR3 := r3.frm.box; have fR3 := bx_frozen r3.frm; have c3 := r3.cell; have hin3 := r3.in_; have p3 := hin3.c0))
          obtain ⟨z0, z1, z2, z3, z4, z5, z6, z7, z8, z9⟩ := store10_cell (cR3 0) (cR3 1) (cR3 2) (cR3 3) (cR3 4) (cR3 5) (cR3 6) (cR3 7) (cR3 8) (cR3 9) (.int .i64 0) (.string ⟨#[]⟩) (.string ⟨#[]⟩) (.string ⟨#[]⟩) (.string ⟨#[]⟩) (.slice none 0 0) (.int .i64 0) (.int .i64 0) (.int .i64 0) (.int .i64 0)
          refine bodyPost_ret (v := .tuple #[.agg #[.int .i64 0, .string ⟨#[]⟩, .string ⟨#[]⟩, .string ⟨#[]⟩, .string ⟨#[]⟩, .slice none 0 0, .int .i64 0, .int .i64 0, .int .i64 0, .int .i64 0], .int .i64 2]) (by simp [results, Try.results16, go_sem, z0, z1, z2, z3, z4, z5, z6, z7, z8, z9]) rfl ⟨_, rfl, Rd.nil _ 1 none 0, store10 (((Frm.refl No w).alloc _).thenNo r3.frm) (Nat.le_refl _) (.int .i64 0) (.string ⟨#[]⟩) (.string ⟨#[]⟩) (.string ⟨#[]⟩) (.string ⟨#[]⟩) (.slice none 0 0) (.int .i64 0) (.int .i64 0) (.int .i64 0) (.int .i64 0)⟩
        · rw [hg] at HG
          by_cases hs : s9 = []
          · subst hs
            have hend : Oct.rEnd [] 0 = 0 := rfl
            obtain rfl : R = (⟨k0, a, b0, o, d, ws, n0, n1, n2, n3⟩, 0) := by rw [hget.out]; exact Cmd.fin_ok hg
            clear hget hg
            go_wp2_with (first | (go_at_call 40; refine (in_err _ _ _ _ hin9).mono ?_; rintro q1 w2 ⟨rfl, rfl⟩) | (go_at_call 12; refine HG.out.mono ?_; rintro q2 w3 ⟨rfl, hf3⟩; have r3 := r.no hf3; have cR3 := r3.frm.box; have fR3 := bx_frozen r3.frm; have c3 := r3.cell; have hin3 := r3.in_; have p3 := hin3.c0) | (go_at_call 41; refine (in_end _ _ _ _ hin3).mono ?_; rintro q3 w4 ⟨rfl, rfl⟩; rw [hend]))
            obtain ⟨z0, z1, z2, z3, z4, z5, z6, z7, z8, z9⟩ := store10_cell (cR3 0) (cR3 1) (cR3 2) (cR3 3) (cR3 4) (cR3 5) (cR3 6) (cR3 7) (cR3 8) (cR3 9) (.int .i64 k0) (.string ⟨a.toArray⟩) (.string ⟨b0.toArray⟩) (.string ⟨o.toArray⟩) (.string ⟨d.toArray⟩) (.slice ao ws.length cp) (.int .i64 n0) (.int .i64 n1) (.int .i64 n2) (.int .i64 n3)
            refine bodyPost_ret (v := .tuple #[.agg #[.int .i64 k0, .string ⟨a.toArray⟩, .string ⟨b0.toArray⟩, .string ⟨o.toArray⟩, .string ⟨d.toArray⟩, .slice ao ws.length cp, .int .i64 n0, .int .i64 n1, .int .i64 n2, .int .i64 n3], .int .i64 0]) (by simp [results, Try.results16, go_sem, z0, z1, z2, z3, z4, z5, z6, z7, z8, z9]) rfl ⟨_, rfl, (hrd9.frm hf3 (fun _ _ h => h)).frm (store10_one (.int .i64 k0) (.string ⟨a.toArray⟩) (.string ⟨b0.toArray⟩) (.string ⟨o.toArray⟩) (.string ⟨d.toArray⟩) (.slice ao ws.length cp) (.int .i64 n0) (.int .i64 n1) (.int .i64 n2) (.int .i64 n3)) hwR, store10 (((Frm.refl No w).alloc _).thenNo r3.frm) (Nat.le_refl _) (.int .i64 k0) (.string ⟨a.toArray⟩) (.string ⟨b0.toArray⟩) (.string ⟨o.toArray⟩) (.string ⟨d.toArray⟩) (.slice ao ws.length cp) (.int .i64 n0) (.int .i64 n1) (.int .i64 n2) (.int .i64 n3)⟩
          · have hend : Oct.rEnd s9 0 = 4 := by unfold Oct.rEnd; rw [if_pos rfl, if_neg hs]
            obtain rfl : R = (Cmd.none_, 4) := by rw [hget.out]; exact Cmd.fin_more hg hs
            have hs' : (s9 == []) = false := by simpa using hs
            clear hget hg
            go_wp2_with (first | (go_at_call 40; refine (in_err _ _ _ _ hin9).mono ?_; rintro q1 w2 ⟨rfl, rfl⟩) | (go_at_call 12; refine HG.out.mono ?_; rintro q2 w3 ⟨rfl, hf3⟩; have r3 := r.no hf3; have cR3 := r3.frm.box; have fR3 := bx_frozen r3.frm; have c3 := r3.cell; have hin3 := r3.in_; have p3 := hin3.c0) | (go_at_call 41; refine (in_end _ _ _ _ hin3).mono ?_; rintro q3 w4 ⟨rfl, rfl⟩; rw [hend]))
            obtain ⟨z0, z1, z2, z3, z4, z5, z6, z7, z8, z9⟩ := store10_cell (cR3 0) (cR3 1) (cR3 2) (cR3 3) (cR3 4) (cR3 5) (cR3 6) (cR3 7) (cR3 8) (cR3 9) (.int .i64 0) (.string ⟨#[]⟩) (.string ⟨#[]⟩) (.string ⟨#[]⟩) (.string ⟨#[]⟩) (.slice none 0 0) (.int .i64 0) (.int .i64 0) (.int .i64 0) (.int .i64 0)
            refine bodyPost_ret (v := .tuple #[.agg #[.int .i64 0, .string ⟨#[]⟩, .string ⟨#[]⟩, .string ⟨#[]⟩, .string ⟨#[]⟩, .slice none 0 0, .int .i64 0, .int .i64 0, .int .i64 0, .int .i64 0], .int .i64 4]) (by simp [results, Try.results16, go_sem, z0, z1, z2, z3, z4, z5, z6, z7, z8, z9]) rfl ⟨_, rfl, Rd.nil _ 1 none 0, store10 (((Frm.refl No w).alloc _).thenNo r3.frm) (Nat.le_refl _) (.int .i64 0) (.string ⟨#[]⟩) (.string ⟨#[]⟩) (.string ⟨#[]⟩) (.string ⟨#[]⟩) (.slice none 0 0) (.int .i64 0) (.int .i64 0) (.int .i64 0) (.int .i64 0)⟩
      · obtain rfl : R = (Cmd.none_, e9) := by rw [hget.out]; exact Cmd.fin_err he
        clear hget
        have he' : (e9 == 0) = false := by simpa using he
        have hK := hid (fun x0 x1 x2 x3 x4 x5 x6 x7 x8 x9 => ((store10_one (w1 := wr) (B := w.heap.size) x0 x1 x2 x3 x4 x5 x6 x7 x8 x9).drew.cell (p := ⟨w.heap.size + 1, 1, none⟩) hin9.lt (fun e => by have e : w.heap.size + 1 = w.heap.size := e; omega)).trans p1)
        have p1d : wr.drew.cell? ⟨w.heap.size + 1, 1, none⟩ = some (.int .i64 e9) := p1
        go_wp2_with fail
        go_region_held3 (fun w' => w'.cell? ⟨w.heap.size + 1, 1, none⟩ = some (.int .i64 e9)) (first | (with_reducible exact p1d) | (with_reducible exact hK.out _ _ _ _ _ _ _ _ _ _)) (first | fail)
        go_wp2_with fail
        obtain ⟨z0, z1, z2, z3, z4, z5, z6, z7, z8, z9⟩ := store10_cell (cR 0) (cR 1) (cR 2) (cR 3) (cR 4) (cR 5) (cR 6) (cR 7) (cR 8) (cR 9) (.int .i64 0) (.string ⟨#[]⟩) (.string ⟨#[]⟩) (.string ⟨#[]⟩) (.string ⟨#[]⟩) (.slice none 0 0) (.int .i64 0) (.int .i64 0) (.int .i64 0) (.int .i64 0)
        refine bodyPost_ret (v := .tuple #[.agg #[.int .i64 0, .string ⟨#[]⟩, .string ⟨#[]⟩, .string ⟨#[]⟩, .string ⟨#[]⟩, .slice none 0 0, .int .i64 0, .int .i64 0, .int .i64 0, .int .i64 0], .int .i64 e9]) (by simp [results, Try.results16, go_sem, z0, z1, z2, z3, z4, z5, z6, z7, z8, z9]) rfl ⟨_, rfl, Rd.nil _ 1 none 0, (store10 (((Frm.refl No w).alloc _).thenNo r.frm) (Nat.le_refl _) (.int .i64 0) (.string ⟨#[]⟩) (.string ⟨#[]⟩) (.string ⟨#[]⟩) (.string ⟨#[]⟩) (.slice none 0 0) (.int .i64 0) (.int .i64 0) (.int .i64 0) (.int .i64 0)).drew⟩
end Go.Proofs.Ytjhodcdjkokkoaa
