/- The walks of marks: Canon, Put, Get; and the document's. -/
import Derived.Test.YtebocnpbiiejmaaDoorSpo
import Derived.Test.YtebocnpbiiejmaaDoorShelf
import Derived.Test.YtebocnpbiiejmaaDoorMarkLaw
import Derived.Laws.Externs
import Derived.Laws.Bits64b
import Derived.Laws.Cover2
namespace Go.Proofs.YtebocnpbiiejmaaDoor
open Go.RowKit

theorem bits_of (n : Nat) (w : World) : (callFunc 56 #[.float .f64 n]).run Tryd.prog w = .ok (.value (.int .u64 (n : Int))) w := by
  rw [run_callFunc_extern (e := Extern.MathFloatBits.float64bits) Tryd.func56 (by kernel_rfl) (by kernel_rfl) (by kernel_rfl) (by kernel_rfl)]
  rfl
theorem of_bits (n : Nat) (w : World) : (callFunc 58 #[.int .u64 (n : Int)]).run Tryd.prog w = .ok (.value (.float .f64 n)) w := by
  rw [run_callFunc_extern (e := Extern.MathFloatBits.float64frombits) Tryd.func58 (by kernel_rfl) (by kernel_rfl) (by kernel_rfl) (by kernel_rfl)]
  rfl
set_option maxRecDepth 100000 in
theorem mnone_any (w : World) : Calls Tryd.prog 73 #[] w fun e w' => e = .returned (.float .f64 9221120237041090561) ∧ w = w' := by
  have hf : ∀ w, (callFunc 58 #[.int .u64 9221120237041090561]).run Tryd.prog w = .ok (.value (.float .f64 9221120237041090561)) w := fun w => of_bits 9221120237041090561 w
  go_enter Tryd.func73, Tryd.ntmps73
  go_wp2_with fail
  go_ret
  exact ⟨rfl, rfl⟩
set_option maxRecDepth 100000 in
theorem mcanon_any (n : Nat) (w : World) : Calls Tryd.prog 57 #[.float .f64 n] w fun e w' => e = .returned (.float .f64 (Mk.canon n)) ∧ w = w' := by
  have h1 := Mk.order_self_ne n
  have h2 := Mk.order_iszero n
  by_cases hn : Mk.nanB n = true
  · have hc : Hid (Mk.canon n = 9221120237041090561) := by unfold Mk.canon; rw [if_pos hn]; exact hid rfl
    rw [hn] at h1
    clear h2 hn
    go_enter Tryd.func57, Tryd.ntmps57
    go_wp2_with (go_at_call 73; refine (mnone_any _).mono ?_; rintro e1 w1 ⟨rfl, rfl⟩)
    go_ret
    exact ⟨by rw [hc.out]; rfl, rfl⟩
  · have hn' : Mk.nanB n = false := by simpa using hn
    rw [hn'] at h1
    by_cases h0 : n % 9223372036854775808 = 0
    · have hc : Hid (Mk.canon n = 0) := by unfold Mk.canon; rw [if_neg hn, if_pos h0]; exact hid rfl
      rw [decide_eq_true h0] at h2
      clear hn hn' h0
      go_enter Tryd.func57, Tryd.ntmps57
      go_wp2_with fail
      go_ret
      exact ⟨by rw [hc.out]; rfl, rfl⟩
    · have hc : Hid (Mk.canon n = n) := by unfold Mk.canon; rw [if_neg hn, if_neg h0]; exact hid rfl
      rw [decide_eq_false h0] at h2
      clear hn hn' h0
      go_enter Tryd.func57, Tryd.ntmps57
      go_wp2_with fail
      go_ret
      exact ⟨by rw [hc.out]; rfl, rfl⟩
end Go.Proofs.YtebocnpbiiejmaaDoor
