/- The walk of the network's Spoil. -/
import Derived.Test.YtlhcjoaeipgbeaaNet3
import Derived.Lib.ConvBytes
import Derived.Lib.AtoiErrMem
namespace Go.Proofs.Ytlhcjoaeipgbeaa
open Go.RowKit

theorem spoil_nil (x at_ by_ : Int) (w : World) : Calls Try.prog 17 #[.pointer none, .int .i64 x, .int .i64 at_, .int .u32 by_] w fun e w' => e = .returned (.bool false) ∧ Frm No w w' := by
  go_enter Try.func17, Try.ntmps17
  go_wp2_with (go_at_call 18; refine (look_nil' x _).mono ?_; rintro e1 w1 ⟨rfl, hf1⟩)
  go_ret
  exact ⟨rfl, hf1.alloc _⟩
theorem spoil_none (b : Nat) (v : Value) (x at_ by_ : Int) (w : World) (h : NetAt w b v []) : Calls Try.prog 17 #[.pointer (some ⟨b, 0, none⟩), .int .i64 x, .int .i64 at_, .int .u32 by_] w fun e w' => e = .returned (.bool false) ∧ Frm No w w' := by
  have HL := hid (look_any' b v [] x fr0 rfl false rfl w h (by simp))
  unfold fr0 at HL
  simp only at HL
  go_enter Try.func17, Try.ntmps17
  go_wp2_with (go_at_call 18; refine HL.out.mono ?_; rintro e1 w1 ⟨rfl, hf1⟩)
  go_ret
  exact ⟨rfl, hf1.alloc _⟩
end Go.Proofs.Ytlhcjoaeipgbeaa
