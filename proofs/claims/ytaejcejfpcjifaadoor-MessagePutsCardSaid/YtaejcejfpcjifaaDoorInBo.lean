/- The walks of octets.In's Bool. -/
import Derived.Test.YtaejcejfpcjifaaDoorInAll
namespace Go.Proofs.YtaejcejfpcjifaaDoor
open Go.RowKit

set_option maxRecDepth 100000 in
theorem in_bool (b : Nat) (s : List UInt8) (e : Int) (w : World) (h : InAt w b s e) (hl : s.length ≤ 281474976710656) :
    Calls Tryd.prog 60 #[.pointer (some ⟨b, 0, none⟩)] w (InP b w (.bool (Oct.rBool s e).1) (Oct.rBool s e).2) := by
  by_cases he : e = 0
  · subst he
    have h0 := h.c0
    have h2 := h.f
    cases s with
    | nil =>
      go_enter Tryd.func60, Tryd.ntmps60
      go_wp2_with (first | (go_at_call 55; refine (ready_yes b _ _ h).mono ?_; rintro r w1 ⟨rfl, rfl⟩) | (go_at_call 56; refine (fail_first b _ _ _ h).mono ?_; rintro r w2 ⟨rfl, hb, hg⟩))
      go_ret
      exact InP_mk rfl rfl hb hg
    | cons c s =>
      have hc := c.toNat_lt
      by_cases h1 : 1 < c.toNat
      · have HR := hid (rBool_hi (s := s) h1)
        go_enter Tryd.func60, Tryd.ntmps60
        go_wp2_with (first | (go_at_call 55; refine (ready_yes b _ _ h).mono ?_; rintro r w1 ⟨rfl, rfl⟩) | (go_at_call 56; refine (fail_first b _ _ _ h).mono ?_; rintro r w2 ⟨rfl, hb, hg⟩))
        go_ret
        exact InP_mk (by rw [HR.out]; rfl) (by rw [HR.out]) hb hg
      · have HR := hid (rBool_ok (s := s) h1)
        simp only [List.length_cons] at hl
        have htk : List.take (s.length + 1 - 1) s = s := List.take_of_length_le (by omega)
        go_enter Tryd.func60, Tryd.ntmps60
        go_wp2_with (go_at_call 55; refine (ready_yes b _ _ h).mono ?_; rintro r w1 ⟨rfl, rfl⟩)
        go_ret
        refine InP_mk ?_ (by rw [HR.out]) (InAt.setS h) frmOne
        rw [HR.out]
        refine congrArg Value.bool ?_
        rcases (show c.toNat = 0 ∨ c.toNat = 1 by omega) with h | h <;> simp [h]
  · have HR := hid (rBool_no (s := s) he)
    have he' : (e == 0) = false := by simpa using he
    clear he
    go_enter Tryd.func60, Tryd.ntmps60
    go_wp2_with (go_at_call 55; refine (ready_no b _ _ _ h he').mono ?_; rintro r w1 ⟨rfl, rfl⟩)
    go_ret
    exact InP_mk (by rw [HR.out]; rfl) (by rw [HR.out]) h (Frm.refl _ _)

theorem in_bool_nil (w : World) :
    Calls Tryd.prog 60 #[.pointer none] w fun r w' => r = .returned (.bool false) ∧ w = w' := by
  go_enter Tryd.func60, Tryd.ntmps60
  go_wp2_with (go_at_call 55; refine (ready_nil _).mono ?_; rintro r w1 ⟨rfl, rfl⟩)
  go_ret
  exact ⟨rfl, rfl⟩
end Go.Proofs.YtaejcejfpcjifaaDoor
