/- Which numbers, amounts, entries are good: the code's small tests. -/
import Derived.Test.YtaejcejfpcjifaaDoorMsgW2
namespace Go.Proofs.YtaejcejfpcjifaaDoor
open Go.RowKit
open Msg

theorem number_any (n : Int) (w : World) : Calls Tryd.prog 25 #[.int .i64 n] w fun e w' => e = .returned (.bool (Msg.num n)) ∧ w = w' := by
  have HN : Hid (Msg.num n = (decide (0 ≤ n) && decide (n ≤ 9007199254740992))) := hid rfl
  go_enter Tryd.func25, Tryd.ntmps25
  go_wp2_with fail
  all_goals
    go_ret
    exact ⟨by rw [HN.out]; simp [*] <;> omega, rfl⟩
theorem amount_any (n : Int) (w : World) : Calls Tryd.prog 23 #[.int .i64 n] w fun e w' => e = .returned (.bool (Msg.amt n)) ∧ w = w' := by
  have HN : Hid (Msg.amt n = ((n == 3) || (n == 5) || (n == 7))) := hid (by simp [Msg.amt, Bool.beq_eq_decide_eq])
  go_enter Tryd.func23, Tryd.ntmps23
  go_wp2_with fail
  all_goals
    go_ret
    exact ⟨by rw [HN.out]; simp [*] <;> omega, rfl⟩
set_option maxRecDepth 100000 in
theorem entgood_any (x : Ent) (w : World) (hl : x.text.length ≤ 9223372036854775807) : Calls Tryd.prog 28 #[.agg #[.int .i64 x.client, .int .i64 x.number, .string ⟨x.text.toArray⟩]] w fun e w' => e = .returned (.bool (entG x)) ∧ Frm No w w' := by
  have HN : Hid (entG x = (Msg.num x.client && decide (x.client < 3) && Msg.num x.number && decide (0 < x.number) && decide (x.text.length ≤ 8192))) := hid rfl
  obtain ⟨c, n, t⟩ := x
  dsimp only at HN hl ⊢
  have H1 := hid (number_any c)
  have H2 := hid (number_any n)
  obtain ⟨b1, hb1⟩ : ∃ b, Msg.num c = b := ⟨_, rfl⟩
  obtain ⟨b2, hb2⟩ : ∃ b, Msg.num n = b := ⟨_, rfl⟩
  rw [hb1] at H1 HN
  rw [hb2] at H2 HN
  clear hb1 hb2
  cases b1 <;> cases b2
  all_goals
    go_enter Tryd.func28, Tryd.ntmps28
    go_wp2_with (first | (go_at_call_of 25 (Value.int .i64 c); refine (H1.out _).mono ?_; rintro e w1 ⟨rfl, rfl⟩) | (go_at_call 25; refine (H2.out _).mono ?_; rintro e w1 ⟨rfl, rfl⟩))
    all_goals
      go_ret
      exact ⟨by rw [HN.out]; simp [*] <;> omega, (Frm.refl No w).alloc _⟩
end Go.Proofs.YtaejcejfpcjifaaDoor
