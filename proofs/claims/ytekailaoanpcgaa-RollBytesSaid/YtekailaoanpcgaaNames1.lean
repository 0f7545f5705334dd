/- The walks of names' letters: lex and the reference. -/
import Derived.Test.YtekailaoanpcgaaCmdLaw
namespace Go.Proofs.Ytekailaoanpcgaa
open Go.RowKit

theorem letter_any (c : UInt8) (w : World) : Calls Try.prog 56 #[.int .u8 ((c.toNat : Nat) : Int)] w fun e w' => e = .returned (.bool (Cmd.letter c)) ∧ w = w' := by
  have hl : Cmd.letter c = ((decide (97 ≤ c.toNat) && decide (c.toNat ≤ 122)) || (decide (65 ≤ c.toNat) && decide (c.toNat ≤ 90))) := rfl
  have hi : c.toNat < 65 ∨ (65 ≤ c.toNat ∧ c.toNat ≤ 90) ∨ (91 ≤ c.toNat ∧ c.toNat ≤ 96) ∨ (97 ≤ c.toNat ∧ c.toNat ≤ 122) ∨ 122 < c.toNat := by omega
  generalize Cmd.letter c = L at *
  generalize c.toNat = n at *
  rcases hi with h | h | h | h | h
  · have e1 : ¬ (65 : Int) ≤ (n : Int) := by omega
    have e2 :  (n : Int) ≤ 90 := by omega
    have e3 : ¬ (97 : Int) ≤ (n : Int) := by omega
    have e4 :  (n : Int) ≤ 122 := by omega
    have hv : L = false := by rw [hl]; simp; omega
    subst hv
    clear hl h
    go_enter Try.func56, Try.ntmps56
    go_wp2_with fail
    go_ret
    exact ⟨rfl, rfl⟩
  · have e1 :  (65 : Int) ≤ (n : Int) := by omega
    have e2 :  (n : Int) ≤ 90 := by omega
    have e3 : ¬ (97 : Int) ≤ (n : Int) := by omega
    have e4 :  (n : Int) ≤ 122 := by omega
    have hv : L = true := by rw [hl]; simp; omega
    subst hv
    clear hl h
    go_enter Try.func56, Try.ntmps56
    go_wp2_with fail
    go_ret
    exact ⟨rfl, rfl⟩
  · have e1 :  (65 : Int) ≤ (n : Int) := by omega
    have e2 : ¬ (n : Int) ≤ 90 := by omega
    have e3 : ¬ (97 : Int) ≤ (n : Int) := by omega
    have e4 :  (n : Int) ≤ 122 := by omega
    have hv : L = false := by rw [hl]; simp; omega
    subst hv
    clear hl h
    go_enter Try.func56, Try.ntmps56
    go_wp2_with fail
    go_ret
    exact ⟨rfl, rfl⟩
  · have e1 :  (65 : Int) ≤ (n : Int) := by omega
    have e2 : ¬ (n : Int) ≤ 90 := by omega
    have e3 :  (97 : Int) ≤ (n : Int) := by omega
    have e4 :  (n : Int) ≤ 122 := by omega
    have hv : L = true := by rw [hl]; simp; omega
    subst hv
    clear hl h
    go_enter Try.func56, Try.ntmps56
    go_wp2_with fail
    go_ret
    exact ⟨rfl, rfl⟩
  · have e1 :  (65 : Int) ≤ (n : Int) := by omega
    have e2 : ¬ (n : Int) ≤ 90 := by omega
    have e3 :  (97 : Int) ≤ (n : Int) := by omega
    have e4 : ¬ (n : Int) ≤ 122 := by omega
    have hv : L = false := by rw [hl]; simp; omega
    subst hv
    clear hl h
    go_enter Try.func56, Try.ntmps56
    go_wp2_with fail
    go_ret
    exact ⟨rfl, rfl⟩
theorem refletter_any (c : UInt8) (w : World) : Calls Try.prog 99 #[.int .u8 ((c.toNat : Nat) : Int)] w fun e w' => e = .returned (.bool (Cmd.letter c)) ∧ w = w' := by
  have hl : Cmd.letter c = ((decide (97 ≤ c.toNat) && decide (c.toNat ≤ 122)) || (decide (65 ≤ c.toNat) && decide (c.toNat ≤ 90))) := rfl
  have hi : c.toNat < 65 ∨ (65 ≤ c.toNat ∧ c.toNat ≤ 90) ∨ (91 ≤ c.toNat ∧ c.toNat ≤ 96) ∨ (97 ≤ c.toNat ∧ c.toNat ≤ 122) ∨ 122 < c.toNat := by omega
  generalize Cmd.letter c = L at *
  generalize c.toNat = n at *
  rcases hi with h | h | h | h | h
  · have e1 : ¬ (65 : Int) ≤ (n : Int) := by omega
    have e2 :  (n : Int) ≤ 90 := by omega
    have e3 : ¬ (97 : Int) ≤ (n : Int) := by omega
    have e4 :  (n : Int) ≤ 122 := by omega
    have hv : L = false := by rw [hl]; simp; omega
    subst hv
    clear hl h
    go_enter Try.func99, Try.ntmps99
    go_wp2_with fail
    go_ret
    exact ⟨rfl, rfl⟩
  · have e1 :  (65 : Int) ≤ (n : Int) := by omega
    have e2 :  (n : Int) ≤ 90 := by omega
    have e3 : ¬ (97 : Int) ≤ (n : Int) := by omega
    have e4 :  (n : Int) ≤ 122 := by omega
    have hv : L = true := by rw [hl]; simp; omega
    subst hv
    clear hl h
    go_enter Try.func99, Try.ntmps99
    go_wp2_with fail
    go_ret
    exact ⟨rfl, rfl⟩
  · have e1 :  (65 : Int) ≤ (n : Int) := by omega
    have e2 : ¬ (n : Int) ≤ 90 := by omega
    have e3 : ¬ (97 : Int) ≤ (n : Int) := by omega
    have e4 :  (n : Int) ≤ 122 := by omega
    have hv : L = false := by rw [hl]; simp; omega
    subst hv
    clear hl h
    go_enter Try.func99, Try.ntmps99
    go_wp2_with fail
    go_ret
    exact ⟨rfl, rfl⟩
  · have e1 :  (65 : Int) ≤ (n : Int) := by omega
    have e2 : ¬ (n : Int) ≤ 90 := by omega
    have e3 :  (97 : Int) ≤ (n : Int) := by omega
    have e4 :  (n : Int) ≤ 122 := by omega
    have hv : L = true := by rw [hl]; simp; omega
    subst hv
    clear hl h
    go_enter Try.func99, Try.ntmps99
    go_wp2_with fail
    go_ret
    exact ⟨rfl, rfl⟩
  · have e1 :  (65 : Int) ≤ (n : Int) := by omega
    have e2 : ¬ (n : Int) ≤ 90 := by omega
    have e3 :  (97 : Int) ≤ (n : Int) := by omega
    have e4 : ¬ (n : Int) ≤ 122 := by omega
    have hv : L = false := by rw [hl]; simp; omega
    subst hv
    clear hl h
    go_enter Try.func99, Try.ntmps99
    go_wp2_with fail
    go_ret
    exact ⟨rfl, rfl⟩
theorem inname_any (c : UInt8) (w : World) : Calls Try.prog 57 #[.int .u8 ((c.toNat : Nat) : Int)] w fun e w' => e = .returned (.bool (Cmd.inName c)) ∧ w = w' := by
  have HL := hid (fun w => letter_any c w)
  have hl : Cmd.inName c = (Cmd.letter c || (decide (48 ≤ c.toNat) && decide (c.toNat ≤ 57)) || decide (c.toNat = 95) || decide (c.toNat = 45)) := rfl
  generalize Cmd.inName c = V at *
  generalize Cmd.letter c = L at *
  have hi : (48 ≤ c.toNat ∧ c.toNat ≤ 57) ∨ c.toNat = 95 ∨ c.toNat = 45 ∨ (57 < c.toNat ∧ c.toNat ≠ 95) ∨ (c.toNat < 48 ∧ c.toNat ≠ 45) := by omega
  generalize c.toNat = n at *
  cases L
  · rcases hi with h | h | h | h | h
    · have e1 :  (48 : Int) ≤ (n : Int) := by omega
      have e2 :  (n : Int) ≤ 57 := by omega
      have e3 : ((n : Int) == 95) = false := by simp; omega
      have e4 : ((n : Int) == 45) = false := by simp; omega
      have hv : V = true := by rw [hl]; simp; omega
      subst hv
      clear hl h
      go_enter Try.func57, Try.ntmps57
      go_wp2_with (go_at_call 56; refine (HL.out _).mono ?_; rintro e1 w1 ⟨rfl, rfl⟩)
      go_ret
      exact ⟨by first | rfl | exact congrArg (fun b => Ending.returned (Value.bool b)) (decide_eq_false (by omega)), rfl⟩
    · have e1 :  (48 : Int) ≤ (n : Int) := by omega
      have e2 : ¬ (n : Int) ≤ 57 := by omega
      have e3 : ((n : Int) == 95) = true := by simp; omega
      have e4 : ((n : Int) == 45) = false := by simp; omega
      have hv : V = true := by rw [hl]; simp; omega
      subst hv
      clear hl h
      go_enter Try.func57, Try.ntmps57
      go_wp2_with (go_at_call 56; refine (HL.out _).mono ?_; rintro e1 w1 ⟨rfl, rfl⟩)
      go_ret
      exact ⟨by first | rfl | exact congrArg (fun b => Ending.returned (Value.bool b)) (decide_eq_false (by omega)), rfl⟩
    · have e1 : ¬ (48 : Int) ≤ (n : Int) := by omega
      have e2 :  (n : Int) ≤ 57 := by omega
      have e3 : ((n : Int) == 95) = false := by simp; omega
      have e4 : ((n : Int) == 45) = true := by simp; omega
      have hv : V = true := by rw [hl]; simp; omega
      subst hv
      clear hl h
      go_enter Try.func57, Try.ntmps57
      go_wp2_with (go_at_call 56; refine (HL.out _).mono ?_; rintro e1 w1 ⟨rfl, rfl⟩)
      go_ret
      exact ⟨by first | rfl | exact congrArg (fun b => Ending.returned (Value.bool b)) (decide_eq_false (by omega)), rfl⟩
    · have e1 :  (48 : Int) ≤ (n : Int) := by omega
      have e2 : ¬ (n : Int) ≤ 57 := by omega
      have e3 : ((n : Int) == 95) = false := by simp; omega
      have e4 : ((n : Int) == 45) = false := by simp; omega
      have hv : V = false := by rw [hl]; simp; omega
      subst hv
      clear hl h
      go_enter Try.func57, Try.ntmps57
      go_wp2_with (go_at_call 56; refine (HL.out _).mono ?_; rintro e1 w1 ⟨rfl, rfl⟩)
      go_ret
      exact ⟨by first | rfl | exact congrArg (fun b => Ending.returned (Value.bool b)) (decide_eq_false (by omega)), rfl⟩
    · have e1 : ¬ (48 : Int) ≤ (n : Int) := by omega
      have e2 :  (n : Int) ≤ 57 := by omega
      have e3 : ((n : Int) == 95) = false := by simp; omega
      have e4 : ((n : Int) == 45) = false := by simp; omega
      have hv : V = false := by rw [hl]; simp; omega
      subst hv
      clear hl h
      go_enter Try.func57, Try.ntmps57
      go_wp2_with (go_at_call 56; refine (HL.out _).mono ?_; rintro e1 w1 ⟨rfl, rfl⟩)
      go_ret
      exact ⟨by first | rfl | exact congrArg (fun b => Ending.returned (Value.bool b)) (decide_eq_false (by omega)), rfl⟩
  · have hv : V = true := by rw [hl]; simp
    subst hv
    clear hl hi
    go_enter Try.func57, Try.ntmps57
    go_wp2_with (go_at_call 56; refine (HL.out _).mono ?_; rintro e1 w1 ⟨rfl, rfl⟩)
    go_ret
    exact ⟨rfl, rfl⟩
theorem refrest_any (c : UInt8) (w : World) : Calls Try.prog 100 #[.int .u8 ((c.toNat : Nat) : Int)] w fun e w' => e = .returned (.bool (Cmd.inName c)) ∧ w = w' := by
  have HL := hid (fun w => refletter_any c w)
  have hl : Cmd.inName c = (Cmd.letter c || (decide (48 ≤ c.toNat) && decide (c.toNat ≤ 57)) || decide (c.toNat = 95) || decide (c.toNat = 45)) := rfl
  generalize Cmd.inName c = V at *
  generalize Cmd.letter c = L at *
  have hi : (48 ≤ c.toNat ∧ c.toNat ≤ 57) ∨ c.toNat = 95 ∨ c.toNat = 45 ∨ (57 < c.toNat ∧ c.toNat ≠ 95) ∨ (c.toNat < 48 ∧ c.toNat ≠ 45) := by omega
  generalize c.toNat = n at *
  cases L
  · rcases hi with h | h | h | h | h
    · have e1 :  (48 : Int) ≤ (n : Int) := by omega
      have e2 :  (n : Int) ≤ 57 := by omega
      have e3 : ((n : Int) == 95) = false := by simp; omega
      have e4 : ((n : Int) == 45) = false := by simp; omega
      have hv : V = true := by rw [hl]; simp; omega
      subst hv
      clear hl h
      go_enter Try.func100, Try.ntmps100
      go_wp2_with (go_at_call 99; refine (HL.out _).mono ?_; rintro e1 w1 ⟨rfl, rfl⟩)
      go_ret
      exact ⟨by first | rfl | exact congrArg (fun b => Ending.returned (Value.bool b)) (decide_eq_false (by omega)), rfl⟩
    · have e1 :  (48 : Int) ≤ (n : Int) := by omega
      have e2 : ¬ (n : Int) ≤ 57 := by omega
      have e3 : ((n : Int) == 95) = true := by simp; omega
      have e4 : ((n : Int) == 45) = false := by simp; omega
      have hv : V = true := by rw [hl]; simp; omega
      subst hv
      clear hl h
      go_enter Try.func100, Try.ntmps100
      go_wp2_with (go_at_call 99; refine (HL.out _).mono ?_; rintro e1 w1 ⟨rfl, rfl⟩)
      go_ret
      exact ⟨by first | rfl | exact congrArg (fun b => Ending.returned (Value.bool b)) (decide_eq_false (by omega)), rfl⟩
    · have e1 : ¬ (48 : Int) ≤ (n : Int) := by omega
      have e2 :  (n : Int) ≤ 57 := by omega
      have e3 : ((n : Int) == 95) = false := by simp; omega
      have e4 : ((n : Int) == 45) = true := by simp; omega
      have hv : V = true := by rw [hl]; simp; omega
      subst hv
      clear hl h
      go_enter Try.func100, Try.ntmps100
      go_wp2_with (go_at_call 99; refine (HL.out _).mono ?_; rintro e1 w1 ⟨rfl, rfl⟩)
      go_ret
      exact ⟨by first | rfl | exact congrArg (fun b => Ending.returned (Value.bool b)) (decide_eq_false (by omega)), rfl⟩
    · have e1 :  (48 : Int) ≤ (n : Int) := by omega
      have e2 : ¬ (n : Int) ≤ 57 := by omega
      have e3 : ((n : Int) == 95) = false := by simp; omega
      have e4 : ((n : Int) == 45) = false := by simp; omega
      have hv : V = false := by rw [hl]; simp; omega
      subst hv
      clear hl h
      go_enter Try.func100, Try.ntmps100
      go_wp2_with (go_at_call 99; refine (HL.out _).mono ?_; rintro e1 w1 ⟨rfl, rfl⟩)
      go_ret
      exact ⟨by first | rfl | exact congrArg (fun b => Ending.returned (Value.bool b)) (decide_eq_false (by omega)), rfl⟩
    · have e1 : ¬ (48 : Int) ≤ (n : Int) := by omega
      have e2 :  (n : Int) ≤ 57 := by omega
      have e3 : ((n : Int) == 95) = false := by simp; omega
      have e4 : ((n : Int) == 45) = false := by simp; omega
      have hv : V = false := by rw [hl]; simp; omega
      subst hv
      clear hl h
      go_enter Try.func100, Try.ntmps100
      go_wp2_with (go_at_call 99; refine (HL.out _).mono ?_; rintro e1 w1 ⟨rfl, rfl⟩)
      go_ret
      exact ⟨by first | rfl | exact congrArg (fun b => Ending.returned (Value.bool b)) (decide_eq_false (by omega)), rfl⟩
  · have hv : V = true := by rw [hl]; simp
    subst hv
    clear hl hi
    go_enter Try.func100, Try.ntmps100
    go_wp2_with (go_at_call 99; refine (HL.out _).mono ?_; rintro e1 w1 ⟨rfl, rfl⟩)
    go_ret
    exact ⟨rfl, rfl⟩
end Go.Proofs.Ytekailaoanpcgaa
