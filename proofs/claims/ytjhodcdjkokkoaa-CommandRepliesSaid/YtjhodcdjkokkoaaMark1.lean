/- The walks of marks: Canon, Put, Get; and the document's. -/
import Derived.Test.YtjhodcdjkokkoaaSpo
import Derived.Test.YtjhodcdjkokkoaaShelf
import Derived.Test.YtjhodcdjkokkoaaMarkLaw
import Derived.Laws.Externs
import Derived.Laws.Bits64b
import Derived.Laws.Cover2
namespace Go.Proofs.Ytjhodcdjkokkoaa
open Go.RowKit

theorem bits_of (n : Nat) (w : World) : (callFunc 68 #[.float .f64 n]).run Try.prog w = .ok (.value (.int .u64 (n : Int))) w := by
  rw [run_callFunc_extern (e := Extern.MathFloatBits.float64bits) Try.func68 (by kernel_rfl) (by kernel_rfl) (by kernel_rfl) (by kernel_rfl)]
  rfl
theorem of_bits (n : Nat) (w : World) : (callFunc 50 #[.int .u64 (n : Int)]).run Try.prog w = .ok (.value (.float .f64 n)) w := by
  rw [run_callFunc_extern (e := Extern.MathFloatBits.float64frombits) Try.func50 (by kernel_rfl) (by kernel_rfl) (by kernel_rfl) (by kernel_rfl)]
  rfl
set_option maxRecDepth 100000 in
theorem mnone_any (w : World) : Calls Try.prog 72 #[] w fun e w' => e = .returned (.float .f64 9221120237041090561) ∧ w = w' := by
  have hf : ∀ w, (callFunc 50 #[.int .u64 9221120237041090561]).run Try.prog w = .ok (.value (.float .f64 9221120237041090561)) w := fun w => of_bits 9221120237041090561 w
  go_enter Try.func72, Try.ntmps72
  go_wp2_with fail
  go_ret
  exact ⟨rfl, rfl⟩
set_option maxRecDepth 100000 in
theorem rnone_any (w : World) : Calls Try.prog 74 #[] w fun e w' => e = .returned (.float .f64 9221120237041090561) ∧ w = w' := by
  have hf : ∀ w, (callFunc 50 #[.int .u64 9221120237041090561]).run Try.prog w = .ok (.value (.float .f64 9221120237041090561)) w := fun w => of_bits 9221120237041090561 w
  go_enter Try.func74, Try.ntmps74
  go_wp2_with fail
  go_ret
  exact ⟨rfl, rfl⟩
set_option maxRecDepth 100000 in
theorem mcanon_any (n : Nat) (w : World) : Calls Try.prog 69 #[.float .f64 n] w fun e w' => e = .returned (.float .f64 (Mk.canon n)) ∧ w = w' := by
  have h1 := Mk.order_self_ne n
  have h2 := Mk.order_iszero n
  by_cases hn : Mk.nanB n = true
  · have hc : Hid (Mk.canon n = 9221120237041090561) := by unfold Mk.canon; rw [if_pos hn]; exact hid rfl
    rw [hn] at h1
    clear h2 hn
    go_enter Try.func69, Try.ntmps69
    go_wp2_with (go_at_call 72; refine (mnone_any _).mono ?_; rintro e1 w1 ⟨rfl, rfl⟩)
    go_ret
    exact ⟨by rw [hc.out]; rfl, rfl⟩
  · have hn' : Mk.nanB n = false := by simpa using hn
    rw [hn'] at h1
    by_cases h0 : n % 9223372036854775808 = 0
    · have hc : Hid (Mk.canon n = 0) := by unfold Mk.canon; rw [if_neg hn, if_pos h0]; exact hid rfl
      rw [decide_eq_true h0] at h2
      clear hn hn' h0
      go_enter Try.func69, Try.ntmps69
      go_wp2_with fail
      go_ret
      exact ⟨by rw [hc.out]; rfl, rfl⟩
    · have hc : Hid (Mk.canon n = n) := by unfold Mk.canon; rw [if_neg hn, if_neg h0]; exact hid rfl
      rw [decide_eq_false h0] at h2
      clear hn hn' h0
      go_enter Try.func69, Try.ntmps69
      go_wp2_with fail
      go_ret
      exact ⟨by rw [hc.out]; rfl, rfl⟩
set_option maxRecDepth 100000 in
theorem rnan_any (n : Nat) (hn : n < 18446744073709551616) (w : World) : Calls Try.prog 73 #[.float .f64 n] w fun e w' => e = .returned (.bool (Mk.nanB n)) ∧ w = w' := by
  have hb := bits_of n
  have h1 : bits BinOp.and IntKind.u64 (n : Int) 9218868437227405312 = ((n &&& 9218868437227405312 : Nat) : Int) := bits_and_u64_nat n 9218868437227405312 hn (by omega)
  have h2 : bits BinOp.and IntKind.u64 (n : Int) 4503599627370495 = ((n &&& 4503599627370495 : Nat) : Int) := bits_and_u64_nat n 4503599627370495 hn (by omega)
  have HN := hid (Mk.nan_masks n)
  generalize n &&& 9218868437227405312 = a at *
  generalize n &&& 4503599627370495 = b at *
  by_cases ha : a = 9218868437227405312
  · subst ha
    replace h1 : bits BinOp.and IntKind.u64 (n : Int) 9218868437227405312 = 9218868437227405312 := h1
    by_cases hb0 : b = 0
    · subst hb0
      replace h2 : bits BinOp.and IntKind.u64 (n : Int) 4503599627370495 = 0 := h2
      go_enter Try.func73, Try.ntmps73
      go_wp2_with fail
      go_ret
      exact ⟨by rw [← HN.out]; rfl, rfl⟩
    · have hb1 : ((b : Int) == 0) = false := by simpa using hb0
      have hb2 : ((b : Int) != 0) = true := by simpa using hb0
      go_enter Try.func73, Try.ntmps73
      go_wp2_with fail
      go_ret
      exact ⟨by rw [← HN.out]; simp [hb0], rfl⟩
  · have ha1 : ((a : Int) == 9218868437227405312) = false := by simp; omega
    go_enter Try.func73, Try.ntmps73
    go_wp2_with fail
    go_ret
    exact ⟨by rw [← HN.out]; simp [ha], rfl⟩
set_option maxRecDepth 100000 in
theorem rcanon_any (n : Nat) (hn : n < 18446744073709551616) (w : World) : Calls Try.prog 70 #[.float .f64 n] w fun e w' => e = .returned (.float .f64 (Mk.canon n)) ∧ w = w' := by
  have hb := bits_of n
  have HN := hid (fun w => rnan_any n hn w)
  by_cases h : Mk.nanB n = true
  · have hc : Hid (Mk.canon n = 9221120237041090561) := by unfold Mk.canon; rw [if_pos h]; exact hid rfl
    rw [h] at HN
    clear h
    go_enter Try.func70, Try.ntmps70
    go_wp2_with (first | (go_at_call 73; refine (HN.out _).mono ?_; rintro e1 w1 ⟨rfl, rfl⟩) | (go_at_call 74; refine (rnone_any _).mono ?_; rintro e1 w1 ⟨rfl, rfl⟩))
    go_ret
    exact ⟨by rw [hc.out]; rfl, rfl⟩
  · have h' : Mk.nanB n = false := by simpa using h
    have hc := Mk.canon_ref n hn h'
    rw [h'] at HN
    clear h h'
    by_cases h0 : n = 9223372036854775808
    · have hc' : Hid (Mk.canon n = 0) := by rw [hc, if_pos h0]; exact hid rfl
      subst h0
      clear hc
      go_enter Try.func70, Try.ntmps70
      go_wp2_with (first | (go_at_call 73; refine (HN.out _).mono ?_; rintro e1 w1 ⟨rfl, rfl⟩))
      go_ret
      exact ⟨by rw [hc'.out]; rfl, rfl⟩
    · have hc' : Hid (Mk.canon n = n) := by rw [hc, if_neg h0]; exact hid rfl
      have h0' : ((n : Int) == 9223372036854775808) = false := by simp; omega
      clear hc h0
      go_enter Try.func70, Try.ntmps70
      go_wp2_with (first | (go_at_call 73; refine (HN.out _).mono ?_; rintro e1 w1 ⟨rfl, rfl⟩))
      go_ret
      exact ⟨by rw [hc'.out]; rfl, rfl⟩
end Go.Proofs.Ytjhodcdjkokkoaa
