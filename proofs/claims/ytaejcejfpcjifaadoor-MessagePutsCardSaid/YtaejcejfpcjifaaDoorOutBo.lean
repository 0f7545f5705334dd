/- The walks of octets.Out's Bool. -/
import Derived.Test.YtaejcejfpcjifaaDoorOutAll
namespace Go.Proofs.YtaejcejfpcjifaaDoor
open Go.RowKit

theorem out_bool (b o : Nat) (v : Value) (l : List UInt8) (bad x : Bool) (w : World) (h : OutAt w b o v l bad) (hl : l.length ≤ 70368744177664) :
    Calls Tryd.prog 59 #[.pointer (some ⟨b, o, none⟩), .bool x] w (OutP b o w v (l ++ Oct.flag x) bad) := by
  cases x
  · go_enter Tryd.func59, Tryd.ntmps59
    go_wp2_with (go_at_call 54; refine (out_put b o v l [0] bad true _ h (by simp; omega)).mono ?_; rintro e w2 ⟨rfl, v2, hp⟩)
    go_end0
    exact ⟨rfl, v2, by simpa [Oct.flag] using hp⟩
  · go_enter Tryd.func59, Tryd.ntmps59
    go_wp2_with (go_at_call 54; refine (out_put b o v l [1] bad true _ h (by simp; omega)).mono ?_; rintro e w2 ⟨rfl, v2, hp⟩)
    go_end0
    exact ⟨rfl, v2, by simpa [Oct.flag] using hp⟩

theorem out_bool_nil (x : Bool) (w : World) :
    Calls Tryd.prog 59 #[.pointer none, .bool x] w fun e w' => e = .returned (.tuple #[]) ∧ Frm No w w' := by
  cases x
  · go_enter Tryd.func59, Tryd.ntmps59
    go_wp2_with (go_at_call 54; refine (out_put_nil [0] _ _).mono ?_; rintro e w2 ⟨rfl, rfl⟩)
    go_end0
    exact ⟨rfl, Frm.refl _ _⟩
  · go_enter Tryd.func59, Tryd.ntmps59
    go_wp2_with (go_at_call 54; refine (out_put_nil [1] _ _).mono ?_; rintro e w2 ⟨rfl, rfl⟩)
    go_end0
    exact ⟨rfl, Frm.refl _ _⟩

end Go.Proofs.YtaejcejfpcjifaaDoor
