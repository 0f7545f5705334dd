/- The walks of octets.In's Int, Bool, size, Text. -/
import Derived.Test.YtekailaoanpcgaaIn1
namespace Go.Proofs.Ytekailaoanpcgaa
open Go.RowKit

def InP (b : Nat) (w : World) (v : Value) (x : List UInt8 × Int) (r : Ending) (w' : World) : Prop := r = .returned v ∧ InAt w' b x.1 x.2 ∧ Frm (One b) w w'
theorem InP_mk {b : Nat} {w : World} {v v' : Value} {x : List UInt8 × Int} {s : List UInt8} {e : Int} {w' : World} (hv : v' = v) (hx : x = (s, e)) (ha : InAt w' b s e) (hf : Frm (One b) w w') : InP b w v x (.returned v') w' := by
  subst hv hx; exact ⟨rfl, ha, hf⟩

theorem rInt_no {s : List UInt8} {e : Int} (he : e ≠ 0) : Oct.rInt s e = (0, s, e) := if_neg he
theorem rInt_ok {s : List UInt8} {n : Int} {k : Nat} (hd : Oct.dec s = (n, k, 0)) : Oct.rInt s 0 = (n, s.drop k, 0) := by unfold Oct.rInt; rw [if_pos rfl, hd]; exact if_pos rfl
theorem rInt_er {s : List UInt8} {n : Int} {k : Nat} {e : Int} (hd : Oct.dec s = (n, k, e)) (he : e ≠ 0) : Oct.rInt s 0 = (0, s, e) := by unfold Oct.rInt; rw [if_pos rfl, hd]; exact if_neg he

set_option maxRecDepth 100000 in
theorem in_int (b : Nat) (s : List UInt8) (e : Int) (w : World) (h : InAt w b s e) (hl : s.length ≤ 281474976710656) :
    Calls Try.prog 43 #[.pointer (some ⟨b, 0, none⟩)] w (InP b w (.int .i64 (Oct.rInt s e).1) (Oct.rInt s e).2) := by
  by_cases he : e = 0
  · subst he
    have h0 := h.c0
    have h2 := h.f
    obtain ⟨n, k, er, hd⟩ : ∃ n k er, Oct.dec s = (n, k, er) := ⟨_, _, _, rfl⟩
    by_cases her : er = 0
    · subst her
      have HR := hid (rInt_ok hd)
      have hk := (Oct.dec_ok hd).2.2.2.1
      have HD := hid hd
      have htk : List.take (s.length - k) (List.drop k s) = List.drop k s := List.take_of_length_le (by simp)
      clear hd
      go_enter Try.func43, Try.ntmps43
      go_wp2_with (first | (go_at_call 82; refine (ready_yes b _ _ h).mono ?_; rintro r w1 ⟨rfl, rfl⟩) | (go_at_call 85; refine (get_at HD.out _ hl).mono ?_; rintro r w1 ⟨rfl, hf⟩; have ha := h.frm hf (fun h => h); have k0 := ha.c0; have k2 := ha.f))
      go_ret
      exact InP_mk (by rw [HR.out]; rfl) (by rw [HR.out]) ha.setS (hf.any.then_ frmOne)
    · have HR := hid (rInt_er hd her)
      have HD := hid hd
      have her' : (er == 0) = false := by simpa using her
      clear hd her
      go_enter Try.func43, Try.ntmps43
      go_wp2_with (first | (go_at_call 82; refine (ready_yes b _ _ h).mono ?_; rintro r w1 ⟨rfl, rfl⟩) | (go_at_call 85; refine (get_at HD.out _ hl).mono ?_; rintro r w1 ⟨rfl, hf⟩; have ha := h.frm hf (fun h => h)) | (go_at_call 84; refine (fail_first b _ _ _ ha).mono ?_; rintro r w2 ⟨rfl, hb, hg⟩))
      go_ret
      exact InP_mk (by rw [HR.out]; rfl) (by rw [HR.out]) hb (hf.any.then_ hg)
  · have HR := hid (rInt_no (s := s) he)
    have he' : (e == 0) = false := by simpa using he
    clear he
    go_enter Try.func43, Try.ntmps43
    go_wp2_with (go_at_call 82; refine (ready_no b _ _ _ h he').mono ?_; rintro r w1 ⟨rfl, rfl⟩)
    go_ret
    exact InP_mk (by rw [HR.out]; rfl) (by rw [HR.out]) h (Frm.refl _ _)

theorem in_int_nil (w : World) :
    Calls Try.prog 43 #[.pointer none] w fun r w' => r = .returned (.int .i64 0) ∧ w = w' := by
  go_enter Try.func43, Try.ntmps43
  go_wp2_with (go_at_call 82; refine (ready_nil _).mono ?_; rintro r w1 ⟨rfl, rfl⟩)
  go_ret
  exact ⟨rfl, rfl⟩

theorem rBool_no {s : List UInt8} {e : Int} (he : e ≠ 0) : Oct.rBool s e = (false, s, e) := if_neg he
theorem rBool_hi {c : UInt8} {s : List UInt8} (h : 1 < c.toNat) : Oct.rBool (c :: s) 0 = (false, c :: s, 2) := by unfold Oct.rBool; rw [if_pos rfl]; exact if_pos h
theorem rBool_ok {c : UInt8} {s : List UInt8} (h : ¬ 1 < c.toNat) : Oct.rBool (c :: s) 0 = (decide (c.toNat = 1), s, 0) := by unfold Oct.rBool; rw [if_pos rfl]; exact if_neg h

end Go.Proofs.Ytekailaoanpcgaa
