/- The walks of names' letters: lex and the reference. The walks of good names: lex and the reference. -/
import Derived.Test.YtofcmghhmklmiaaGreatCmdLaw
namespace Go.Proofs.YtofcmghhmklmiaaGreat
open Go.RowKit

theorem letter_any (c : UInt8) (w : World) : Calls Tryz.prog 82 #[.int .u8 ((c.toNat : Nat) : Int)] w fun e w' => e = .returned (.bool (Cmd.letter c)) ∧ w = w' := by
  have hl : Cmd.letter c = ((decide (97 ≤ c.toNat) && decide (c.toNat ≤ 122)) || (decide (65 ≤ c.toNat) && decide (c.toNat ≤ 90))) := rfl
  have hi : c.toNat < 65 ∨ (65 ≤ c.toNat ∧ c.toNat ≤ 90) ∨ (91 ≤ c.toNat ∧ c.toNat ≤ 96) ∨ (97 ≤ c.toNat ∧ c.toNat ≤ 122) ∨ 122 < c.toNat := by omega
  generalize Cmd.letter c = L at *
  generalize c.toNat = n at *
  rcases hi with h | h | h | h | h
  · have e1 : ¬ (65 : Int) ≤ (n : Int) := by omega
    have e2 :  (n : Int) ≤ 90 := by omega
    have e3 : ¬ (97 : Int) ≤ (n : Int) := by omega
    have e4 :  (n : Int) ≤ 122 := by omega
    have hv : L = false := by rw [hl]; simp; omega
    subst hv
    clear hl h
    go_enter Tryz.func82, Tryz.ntmps82
    go_wp2_with fail
    go_ret
    exact ⟨rfl, rfl⟩
  · have e1 :  (65 : Int) ≤ (n : Int) := by omega
    have e2 :  (n : Int) ≤ 90 := by omega
    have e3 : ¬ (97 : Int) ≤ (n : Int) := by omega
    have e4 :  (n : Int) ≤ 122 := by omega
    have hv : L = true := by rw [hl]; simp; omega
    subst hv
    clear hl h
    go_enter Tryz.func82, Tryz.ntmps82
    go_wp2_with fail
    go_ret
    exact ⟨rfl, rfl⟩
  · have e1 :  (65 : Int) ≤ (n : Int) := by omega
    have e2 : ¬ (n : Int) ≤ 90 := by omega
    have e3 : ¬ (97 : Int) ≤ (n : Int) := by omega
    have e4 :  (n : Int) ≤ 122 := by omega
    have hv : L = false := by rw [hl]; simp; omega
    subst hv
    clear hl h
    go_enter Tryz.func82, Tryz.ntmps82
    go_wp2_with fail
    go_ret
    exact ⟨rfl, rfl⟩
  · have e1 :  (65 : Int) ≤ (n : Int) := by omega
    have e2 : ¬ (n : Int) ≤ 90 := by omega
    have e3 :  (97 : Int) ≤ (n : Int) := by omega
    have e4 :  (n : Int) ≤ 122 := by omega
    have hv : L = true := by rw [hl]; simp; omega
    subst hv
    clear hl h
    go_enter Tryz.func82, Tryz.ntmps82
    go_wp2_with fail
    go_ret
    exact ⟨rfl, rfl⟩
  · have e1 :  (65 : Int) ≤ (n : Int) := by omega
    have e2 : ¬ (n : Int) ≤ 90 := by omega
    have e3 :  (97 : Int) ≤ (n : Int) := by omega
    have e4 : ¬ (n : Int) ≤ 122 := by omega
    have hv : L = false := by rw [hl]; simp; omega
    subst hv
    clear hl h
    go_enter Tryz.func82, Tryz.ntmps82
    go_wp2_with fail
    go_ret
    exact ⟨rfl, rfl⟩
theorem refletter_any (c : UInt8) (w : World) : Calls Tryz.prog 95 #[.int .u8 ((c.toNat : Nat) : Int)] w fun e w' => e = .returned (.bool (Cmd.letter c)) ∧ w = w' := by
  have hl : Cmd.letter c = ((decide (97 ≤ c.toNat) && decide (c.toNat ≤ 122)) || (decide (65 ≤ c.toNat) && decide (c.toNat ≤ 90))) := rfl
  have hi : c.toNat < 65 ∨ (65 ≤ c.toNat ∧ c.toNat ≤ 90) ∨ (91 ≤ c.toNat ∧ c.toNat ≤ 96) ∨ (97 ≤ c.toNat ∧ c.toNat ≤ 122) ∨ 122 < c.toNat := by omega
  generalize Cmd.letter c = L at *
  generalize c.toNat = n at *
  rcases hi with h | h | h | h | h
  · have e1 : ¬ (65 : Int) ≤ (n : Int) := by omega
    have e2 :  (n : Int) ≤ 90 := by omega
    have e3 : ¬ (97 : Int) ≤ (n : Int) := by omega
    have e4 :  (n : Int) ≤ 122 := by omega
    have hv : L = false := by rw [hl]; simp; omega
    subst hv
    clear hl h
    go_enter Tryz.func95, Tryz.ntmps95
    go_wp2_with fail
    go_ret
    exact ⟨rfl, rfl⟩
  · have e1 :  (65 : Int) ≤ (n : Int) := by omega
    have e2 :  (n : Int) ≤ 90 := by omega
    have e3 : ¬ (97 : Int) ≤ (n : Int) := by omega
    have e4 :  (n : Int) ≤ 122 := by omega
    have hv : L = true := by rw [hl]; simp; omega
    subst hv
    clear hl h
    go_enter Tryz.func95, Tryz.ntmps95
    go_wp2_with fail
    go_ret
    exact ⟨rfl, rfl⟩
  · have e1 :  (65 : Int) ≤ (n : Int) := by omega
    have e2 : ¬ (n : Int) ≤ 90 := by omega
    have e3 : ¬ (97 : Int) ≤ (n : Int) := by omega
    have e4 :  (n : Int) ≤ 122 := by omega
    have hv : L = false := by rw [hl]; simp; omega
    subst hv
    clear hl h
    go_enter Tryz.func95, Tryz.ntmps95
    go_wp2_with fail
    go_ret
    exact ⟨rfl, rfl⟩
  · have e1 :  (65 : Int) ≤ (n : Int) := by omega
    have e2 : ¬ (n : Int) ≤ 90 := by omega
    have e3 :  (97 : Int) ≤ (n : Int) := by omega
    have e4 :  (n : Int) ≤ 122 := by omega
    have hv : L = true := by rw [hl]; simp; omega
    subst hv
    clear hl h
    go_enter Tryz.func95, Tryz.ntmps95
    go_wp2_with fail
    go_ret
    exact ⟨rfl, rfl⟩
  · have e1 :  (65 : Int) ≤ (n : Int) := by omega
    have e2 : ¬ (n : Int) ≤ 90 := by omega
    have e3 :  (97 : Int) ≤ (n : Int) := by omega
    have e4 : ¬ (n : Int) ≤ 122 := by omega
    have hv : L = false := by rw [hl]; simp; omega
    subst hv
    clear hl h
    go_enter Tryz.func95, Tryz.ntmps95
    go_wp2_with fail
    go_ret
    exact ⟨rfl, rfl⟩
theorem inname_any (c : UInt8) (w : World) : Calls Tryz.prog 83 #[.int .u8 ((c.toNat : Nat) : Int)] w fun e w' => e = .returned (.bool (Cmd.inName c)) ∧ w = w' := by
  have HL := hid (fun w => letter_any c w)
  have hl : Cmd.inName c = (Cmd.letter c || (decide (48 ≤ c.toNat) && decide (c.toNat ≤ 57)) || decide (c.toNat = 95) || decide (c.toNat = 45)) := rfl
  generalize Cmd.inName c = V at *
  generalize Cmd.letter c = L at *
  have hi : (48 ≤ c.toNat ∧ c.toNat ≤ 57) ∨ c.toNat = 95 ∨ c.toNat = 45 ∨ (57 < c.toNat ∧ c.toNat ≠ 95) ∨ (c.toNat < 48 ∧ c.toNat ≠ 45) := by omega
  generalize c.toNat = n at *
  cases L
  · rcases hi with h | h | h | h | h
    · have e1 :  (48 : Int) ≤ (n : Int) := by omega
      have e2 :  (n : Int) ≤ 57 := by omega
      have e3 : ((n : Int) == 95) = false := by simp; omega
      have e4 : ((n : Int) == 45) = false := by simp; omega
      have hv : V = true := by rw [hl]; simp; omega
      subst hv
      clear hl h
      go_enter Tryz.func83, Tryz.ntmps83
      go_wp2_with (go_at_call 82; refine (HL.out _).mono ?_; rintro e1 w1 ⟨rfl, rfl⟩)
      go_ret
      exact ⟨by first | rfl | exact congrArg (fun b => Ending.returned (Value.bool b)) (decide_eq_false (by omega)), rfl⟩
    · have e1 :  (48 : Int) ≤ (n : Int) := by omega
      have e2 : ¬ (n : Int) ≤ 57 := by omega
      have e3 : ((n : Int) == 95) = true := by simp; omega
      have e4 : ((n : Int) == 45) = false := by simp; omega
      have hv : V = true := by rw [hl]; simp; omega
      subst hv
      clear hl h
      go_enter Tryz.func83, Tryz.ntmps83
      go_wp2_with (go_at_call 82; refine (HL.out _).mono ?_; rintro e1 w1 ⟨rfl, rfl⟩)
      go_ret
      exact ⟨by first | rfl | exact congrArg (fun b => Ending.returned (Value.bool b)) (decide_eq_false (by omega)), rfl⟩
    · have e1 : ¬ (48 : Int) ≤ (n : Int) := by omega
      have e2 :  (n : Int) ≤ 57 := by omega
      have e3 : ((n : Int) == 95) = false := by simp; omega
      have e4 : ((n : Int) == 45) = true := by simp; omega
      have hv : V = true := by rw [hl]; simp; omega
      subst hv
      clear hl h
      go_enter Tryz.func83, Tryz.ntmps83
      go_wp2_with (go_at_call 82; refine (HL.out _).mono ?_; rintro e1 w1 ⟨rfl, rfl⟩)
      go_ret
      exact ⟨by first | rfl | exact congrArg (fun b => Ending.returned (Value.bool b)) (decide_eq_false (by omega)), rfl⟩
    · have e1 :  (48 : Int) ≤ (n : Int) := by omega
      have e2 : ¬ (n : Int) ≤ 57 := by omega
      have e3 : ((n : Int) == 95) = false := by simp; omega
      have e4 : ((n : Int) == 45) = false := by simp; omega
      have hv : V = false := by rw [hl]; simp; omega
      subst hv
      clear hl h
      go_enter Tryz.func83, Tryz.ntmps83
      go_wp2_with (go_at_call 82; refine (HL.out _).mono ?_; rintro e1 w1 ⟨rfl, rfl⟩)
      go_ret
      exact ⟨by first | rfl | exact congrArg (fun b => Ending.returned (Value.bool b)) (decide_eq_false (by omega)), rfl⟩
    · have e1 : ¬ (48 : Int) ≤ (n : Int) := by omega
      have e2 :  (n : Int) ≤ 57 := by omega
      have e3 : ((n : Int) == 95) = false := by simp; omega
      have e4 : ((n : Int) == 45) = false := by simp; omega
      have hv : V = false := by rw [hl]; simp; omega
      subst hv
      clear hl h
      go_enter Tryz.func83, Tryz.ntmps83
      go_wp2_with (go_at_call 82; refine (HL.out _).mono ?_; rintro e1 w1 ⟨rfl, rfl⟩)
      go_ret
      exact ⟨by first | rfl | exact congrArg (fun b => Ending.returned (Value.bool b)) (decide_eq_false (by omega)), rfl⟩
  · have hv : V = true := by rw [hl]; simp
    subst hv
    clear hl hi
    go_enter Tryz.func83, Tryz.ntmps83
    go_wp2_with (go_at_call 82; refine (HL.out _).mono ?_; rintro e1 w1 ⟨rfl, rfl⟩)
    go_ret
    exact ⟨rfl, rfl⟩
theorem refrest_any (c : UInt8) (w : World) : Calls Tryz.prog 96 #[.int .u8 ((c.toNat : Nat) : Int)] w fun e w' => e = .returned (.bool (Cmd.inName c)) ∧ w = w' := by
  have HL := hid (fun w => refletter_any c w)
  have hl : Cmd.inName c = (Cmd.letter c || (decide (48 ≤ c.toNat) && decide (c.toNat ≤ 57)) || decide (c.toNat = 95) || decide (c.toNat = 45)) := rfl
  generalize Cmd.inName c = V at *
  generalize Cmd.letter c = L at *
  have hi : (48 ≤ c.toNat ∧ c.toNat ≤ 57) ∨ c.toNat = 95 ∨ c.toNat = 45 ∨ (57 < c.toNat ∧ c.toNat ≠ 95) ∨ (c.toNat < 48 ∧ c.toNat ≠ 45) := by omega
  generalize c.toNat = n at *
  cases L
  · rcases hi with h | h | h | h | h
    · have e1 :  (48 : Int) ≤ (n : Int) := by omega
      have e2 :  (n : Int) ≤ 57 := by omega
      have e3 : ((n : Int) == 95) = false := by simp; omega
      have e4 : ((n : Int) == 45) = false := by simp; omega
      have hv : V = true := by rw [hl]; simp; omega
      subst hv
      clear hl h
      go_enter Tryz.func96, Tryz.ntmps96
      go_wp2_with (go_at_call 95; refine (HL.out _).mono ?_; rintro e1 w1 ⟨rfl, rfl⟩)
      go_ret
      exact ⟨by first | rfl | exact congrArg (fun b => Ending.returned (Value.bool b)) (decide_eq_false (by omega)), rfl⟩
    · have e1 :  (48 : Int) ≤ (n : Int) := by omega
      have e2 : ¬ (n : Int) ≤ 57 := by omega
      have e3 : ((n : Int) == 95) = true := by simp; omega
      have e4 : ((n : Int) == 45) = false := by simp; omega
      have hv : V = true := by rw [hl]; simp; omega
      subst hv
      clear hl h
      go_enter Tryz.func96, Tryz.ntmps96
      go_wp2_with (go_at_call 95; refine (HL.out _).mono ?_; rintro e1 w1 ⟨rfl, rfl⟩)
      go_ret
      exact ⟨by first | rfl | exact congrArg (fun b => Ending.returned (Value.bool b)) (decide_eq_false (by omega)), rfl⟩
    · have e1 : ¬ (48 : Int) ≤ (n : Int) := by omega
      have e2 :  (n : Int) ≤ 57 := by omega
      have e3 : ((n : Int) == 95) = false := by simp; omega
      have e4 : ((n : Int) == 45) = true := by simp; omega
      have hv : V = true := by rw [hl]; simp; omega
      subst hv
      clear hl h
      go_enter Tryz.func96, Tryz.ntmps96
      go_wp2_with (go_at_call 95; refine (HL.out _).mono ?_; rintro e1 w1 ⟨rfl, rfl⟩)
      go_ret
      exact ⟨by first | rfl | exact congrArg (fun b => Ending.returned (Value.bool b)) (decide_eq_false (by omega)), rfl⟩
    · have e1 :  (48 : Int) ≤ (n : Int) := by omega
      have e2 : ¬ (n : Int) ≤ 57 := by omega
      have e3 : ((n : Int) == 95) = false := by simp; omega
      have e4 : ((n : Int) == 45) = false := by simp; omega
      have hv : V = false := by rw [hl]; simp; omega
      subst hv
      clear hl h
      go_enter Tryz.func96, Tryz.ntmps96
      go_wp2_with (go_at_call 95; refine (HL.out _).mono ?_; rintro e1 w1 ⟨rfl, rfl⟩)
      go_ret
      exact ⟨by first | rfl | exact congrArg (fun b => Ending.returned (Value.bool b)) (decide_eq_false (by omega)), rfl⟩
    · have e1 : ¬ (48 : Int) ≤ (n : Int) := by omega
      have e2 :  (n : Int) ≤ 57 := by omega
      have e3 : ((n : Int) == 95) = false := by simp; omega
      have e4 : ((n : Int) == 45) = false := by simp; omega
      have hv : V = false := by rw [hl]; simp; omega
      subst hv
      clear hl h
      go_enter Tryz.func96, Tryz.ntmps96
      go_wp2_with (go_at_call 95; refine (HL.out _).mono ?_; rintro e1 w1 ⟨rfl, rfl⟩)
      go_ret
      exact ⟨by first | rfl | exact congrArg (fun b => Ending.returned (Value.bool b)) (decide_eq_false (by omega)), rfl⟩
  · have hv : V = true := by rw [hl]; simp
    subst hv
    clear hl hi
    go_enter Tryz.func96, Tryz.ntmps96
    go_wp2_with (go_at_call 95; refine (HL.out _).mono ?_; rintro e1 w1 ⟨rfl, rfl⟩)
    go_ret
    exact ⟨rfl, rfl⟩
end Go.Proofs.YtofcmghhmklmiaaGreat

namespace Go.Proofs.YtofcmghhmklmiaaGreat
open Go.RowKit

namespace Cmd
theorem gn_cons {c : UInt8} {r : List UInt8} : gn (c :: r) = (decide ((c :: r).length ≤ 32) && letter c && (c :: r).all inName) := rfl
theorem letter_in {c : UInt8} (h : letter c = true) : inName c = true := by unfold inName; rw [h]; rfl
end Cmd
theorem all_of {l : List UInt8} {k : Nat} (h : ∀ j (hj : j < l.length), j < k → Cmd.inName l[j] = true) (hk : l.length ≤ k) : l.all Cmd.inName = true := by
  rw [List.all_eq_true]
  intro x hx
  obtain ⟨j, hj, rfl⟩ := List.getElem_of_mem hx
  exact h j hj (by omega)
theorem all_not {l : List UInt8} {k : Nat} (hk : k < l.length) (h : Cmd.inName l[k] = false) : l.all Cmd.inName = false := by
  rw [List.all_eq_false]
  exact ⟨_, List.getElem_mem hk, by rw [h]; simp⟩

set_option maxRecDepth 100000 in
set_option maxHeartbeats 400000 in
theorem good_any (l : List UInt8) (w : World) (hl : l.length ≤ 9223372036854775807) : Calls Tryz.prog 54 #[.string ⟨l.toArray⟩] w fun e w' => e = .returned (.bool (Cmd.gn l)) ∧ w = w' := by
  cases l with
  | nil =>
    go_enter Tryz.func54, Tryz.ntmps54
    go_wp2_with fail
    go_ret
    exact ⟨rfl, rfl⟩
  | cons c r =>
    have hgn := Cmd.gn_cons (c := c) (r := r)
    have hg0 : (c :: r)[0]'(by simp) = c := rfl
    have HL := hid (fun w => letter_any c w)
    have HI := hid (fun c w => inname_any c w)
    obtain ⟨V, hV⟩ : ∃ V, Cmd.gn (c :: r) = V := ⟨_, rfl⟩
    rw [hV] at hgn ⊢
    clear hV
    obtain ⟨l, hll⟩ : ∃ l, c :: r = l := ⟨_, rfl⟩
    have hpos : 0 < l.length := by rw [← hll]; simp
    have hgc : l[0]'hpos = c := by subst hll; rfl
    have hne : (l == []) = false := by rw [← hll]; rfl
    rw [hll] at hgn hl ⊢
    clear hll hg0
    have hpz : (0 : Int) < (l.length : Int) := by omega
    by_cases h32 : l.length ≤ 32
    · have h32' : ¬ (32 : Int) < (l.length : Int) := by omega
      rw [decide_eq_true h32, Bool.true_and] at hgn
      cases hlt : Cmd.letter c
      · rw [hlt] at hgn HL
        rw [Bool.false_and] at hgn
        subst hgn
        go_enter Tryz.func54, Tryz.ntmps54
        go_wp2_with (go_at_call 82; refine (HL.out _).mono ?_; rintro e1 w1 ⟨rfl, rfl⟩)
        go_ret
        exact ⟨rfl, rfl⟩
      · rw [hlt] at hgn HL
        rw [Bool.true_and] at hgn
        go_enter Tryz.func54, Tryz.ntmps54
        go_wp2_with (go_at_call 82; refine (HL.out _).mono ?_; rintro e1 w1 ⟨rfl, rfl⟩)
        go_loopw [19] (fun i wr => ∃ k : Nat, k ≤ l.length ∧ i = .int .i64 (k : Int) ∧ (∀ j (hj : j < l.length), j < k → Cmd.inName l[j] = true) ∧ w = wr) (fun i _ => l.length - (intOf i).toNat)
        case atStart => exact ⟨0, by omega, rfl, fun j _ h => by omega, rfl⟩
        case round =>
          obtain ⟨k, hk, rfl, hall, rfl⟩ := hrel
          by_cases hkl : k < l.length
          · have hkz : (k : Int) < (l.length : Int) := by omega
            cases hin : Cmd.inName l[k]
            · have hv := all_not hkl hin
              rw [hv] at hgn
              subst hgn
              clear hall hv
              go_wp2_with (go_at_call 83; refine (HI.out _ _).mono ?_; rintro e1 w1 ⟨rfl, rfl⟩; rw [hin])
              go_ret
              exact ⟨rfl, rfl⟩
            · have hall' : Hid (∀ j (hj : j < l.length), j < k + 1 → Cmd.inName l[j] = true) := by
                intro j hj hjk
                by_cases h : j < k
                · exact hall j hj h
                · obtain rfl : j = k := by omega
                  exact hin
              clear hall hgn
              go_wp2_with (go_at_call 83; refine (HI.out _ _).mono ?_; rintro e1 w1 ⟨rfl, rfl⟩; rw [hin])
              exact ⟨⟨k + 1, by omega, by go_num, hall'.out, trivial⟩, by simp [intOf]; omega⟩
          · have hv := all_of hall (by omega)
            rw [hv] at hgn
            subst hgn
            clear hall hv
            go_wp2_with fail
            go_ret
            exact ⟨rfl, rfl⟩
    · have h32' : (32 : Int) < (l.length : Int) := by omega
      rw [decide_eq_false h32, Bool.false_and, Bool.false_and] at hgn
      subst hgn
      go_enter Tryz.func54, Tryz.ntmps54
      go_wp2_with fail
      go_ret
      exact ⟨rfl, rfl⟩

set_option maxRecDepth 100000 in
set_option maxHeartbeats 400000 in
theorem refgood_any (l : List UInt8) (w : World) (hl : l.length ≤ 9223372036854775807) : Calls Tryz.prog 66 #[.string ⟨l.toArray⟩] w fun e w' => e = .returned (.bool (Cmd.gn l)) ∧ w = w' := by
  cases l with
  | nil =>
    go_enter Tryz.func66, Tryz.ntmps66
    go_wp2_with fail
    go_loopw [3] (fun i wr => i = .int .i64 0 ∧ w = wr) (fun i _ => 0)
    case atStart => exact ⟨rfl, rfl⟩
    case round =>
      obtain ⟨rfl, rfl⟩ := hrel
      go_wp2_with fail
      go_ret
      exact ⟨rfl, rfl⟩
  | cons c r =>
    have hgn := Cmd.gn_cons (c := c) (r := r)
    have HL := hid (fun w => refletter_any c w)
    have HI := hid (fun c w => refrest_any c w)
    have hlin := fun h => Cmd.letter_in (c := c) h
    obtain ⟨V, hV⟩ : ∃ V, Cmd.gn (c :: r) = V := ⟨_, rfl⟩
    rw [hV] at hgn ⊢
    clear hV
    obtain ⟨l, hll⟩ : ∃ l, c :: r = l := ⟨_, rfl⟩
    have hpos : 0 < l.length := by rw [← hll]; simp
    have hgc : l[0]'hpos = c := by subst hll; rfl
    rw [hll] at hgn hl ⊢
    clear hll
    go_enter Tryz.func66, Tryz.ntmps66
    go_wp2_with fail
    go_loopw [3] (fun i wr => ∃ k : Nat, k ≤ l.length ∧ i = .int .i64 (k : Int) ∧ (0 < k → Cmd.letter c = true) ∧ (∀ j (hj : j < l.length), j < k → Cmd.inName l[j] = true) ∧ w = wr) (fun i _ => l.length - (intOf i).toNat)
    case atStart => exact ⟨0, by omega, rfl, fun h => by omega, fun j _ h => by omega, rfl⟩
    case round =>
      obtain ⟨k, hk, rfl, hlet, hall, rfl⟩ := hrel
      by_cases hkl : k < l.length
      · have hkz : (k : Int) < (l.length : Int) := by omega
        cases hlt : Cmd.letter c
        · have hk0 : k = 0 := by
            rcases Nat.eq_zero_or_pos k with h | h
            · exact h
            · have := hlet h; rw [hlt] at this; cases this
          subst hk0
          rw [hlt, Bool.and_false, Bool.false_and] at hgn
          subst hgn
          rw [hlt] at HL
          clear hall hlet hlin hlt
          go_wp2_with (go_at_call 95; refine (HL.out _).mono ?_; rintro e1 w1 ⟨rfl, rfl⟩)
          go_ret
          exact ⟨rfl, rfl⟩
        · rw [hlt] at HL
          cases hin : Cmd.inName l[k]
          · have hv := all_not hkl hin
            have hk0 : k ≠ 0 := by
              rintro rfl
              rw [hgc, hlin hlt] at hin
              cases hin
            have hk0' : ((k : Int) == 0) = false := by simp; omega
            rw [hv, Bool.and_false] at hgn
            subst hgn
            clear hall hv hlet hlin hlt hk0
            go_wp2_with (first | (go_at_call 96; refine (HI.out _ _).mono ?_; rintro e1 w1 ⟨rfl, rfl⟩; rw [hin]))
            go_ret
            exact ⟨rfl, rfl⟩
          · have hall' : Hid (∀ j (hj : j < l.length), j < k + 1 → Cmd.inName l[j] = true) := by
              intro j hj hjk
              by_cases h : j < k
              · exact hall j hj h
              · obtain rfl : j = k := by omega
                exact hin
            have hlt' : Hid (0 < k + 1 → Cmd.letter c = true) := fun _ => hlt
            clear hall hgn hlet hlin hlt
            by_cases hk0 : k = 0
            · subst hk0
              have hinc : Cmd.inName c = true := by rw [← hgc]; exact hin
              go_wp2_with (first | (go_at_call 95; refine (HL.out _).mono ?_; rintro e1 w1 ⟨rfl, rfl⟩) | (go_at_call 96; refine (HI.out _ _).mono ?_; rintro e1 w1 ⟨rfl, rfl⟩; rw [hinc]))
              exact ⟨⟨1, by omega, by go_num, (by first | exact hlt'.out | exact fun _ => trivial), hall'.out, trivial⟩, by simp [intOf]; omega⟩
            · have hk0' : ((k : Int) == 0) = false := by simp; omega
              go_wp2_with (first | (go_at_call 96; refine (HI.out _ _).mono ?_; rintro e1 w1 ⟨rfl, rfl⟩; rw [hin]))
              exact ⟨⟨k + 1, by omega, by go_num, (by first | exact hlt'.out | exact fun _ => trivial), hall'.out, trivial⟩, by simp [intOf]; omega⟩
      · have hv := all_of hall (by omega)
        have hlt := hlet (by omega)
        rw [hv, hlt, Bool.and_true, Bool.and_true] at hgn
        clear hall hv hlet hlin hlt
        have hpz : (0 : Int) < (l.length : Int) := by omega
        by_cases h32 : l.length ≤ 32
        · have h32' : (l.length : Int) < 33 := by omega
          rw [decide_eq_true h32] at hgn
          subst hgn
          go_wp2_with fail
          go_ret
          exact ⟨rfl, rfl⟩
        · have h32' : ¬ (l.length : Int) < 33 := by omega
          rw [decide_eq_false h32] at hgn
          subst hgn
          go_wp2_with fail
          go_ret
          exact ⟨by first | rfl | exact congrArg (fun b => Ending.returned (Value.bool b)) (decide_eq_false (by omega)), rfl⟩
end Go.Proofs.YtofcmghhmklmiaaGreat
