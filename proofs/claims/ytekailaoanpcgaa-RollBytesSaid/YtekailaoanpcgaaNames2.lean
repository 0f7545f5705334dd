/- The walks of good names: lex and the reference. -/
import Derived.Test.YtekailaoanpcgaaNames1
namespace Go.Proofs.Ytekailaoanpcgaa
open Go.RowKit

namespace Cmd
theorem gn_cons {c : UInt8} {r : List UInt8} : gn (c :: r) = (decide ((c :: r).length ≤ 32) && letter c && (c :: r).all inName) := rfl
theorem letter_in {c : UInt8} (h : letter c = true) : inName c = true := by unfold inName; rw [h]; rfl
end Cmd
theorem all_of {l : List UInt8} {k : Nat} (h : ∀ j (hj : j < l.length), j < k → Cmd.inName l[j] = true) (hk : l.length ≤ k) : l.all Cmd.inName = true := by
  rw [List.all_eq_true]
  intro x hx
  obtain ⟨j, hj, rfl⟩ := List.getElem_of_mem hx
  exact h j hj (by omega)
theorem all_not {l : List UInt8} {k : Nat} (hk : k < l.length) (h : Cmd.inName l[k] = false) : l.all Cmd.inName = false := by
  rw [List.all_eq_false]
  exact ⟨_, List.getElem_mem hk, by rw [h]; simp⟩

set_option maxRecDepth 100000 in
set_option maxHeartbeats 400000 in
theorem good_any (l : List UInt8) (w : World) (hl : l.length ≤ 9223372036854775807) : Calls Try.prog 20 #[.string ⟨l.toArray⟩] w fun e w' => e = .returned (.bool (Cmd.gn l)) ∧ w = w' := by
  cases l with
  | nil =>
    go_enter Try.func20, Try.ntmps20
    go_wp2_with fail
    go_ret
    exact ⟨rfl, rfl⟩
  | cons c r =>
    have hgn := Cmd.gn_cons (c := c) (r := r)
    have hg0 : (c :: r)[0]'(by simp) = c := rfl
    have HL := hid (fun w => letter_any c w)
    have HI := hid (fun c w => inname_any c w)
    obtain ⟨V, hV⟩ : ∃ V, Cmd.gn (c :: r) = V := ⟨_, rfl⟩
    rw [hV] at hgn ⊢
    clear hV
    obtain ⟨l, hll⟩ : ∃ l, c :: r = l := ⟨_, rfl⟩
    have hpos : 0 < l.length := by rw [← hll]; simp
    have hgc : l[0]'hpos = c := by subst hll; rfl
    have hne : (l == []) = false := by rw [← hll]; rfl
    rw [hll] at hgn hl ⊢
    clear hll hg0
    have hpz : (0 : Int) < (l.length : Int) := by omega
    by_cases h32 : l.length ≤ 32
    · have h32' : ¬ (32 : Int) < (l.length : Int) := by omega
      rw [decide_eq_true h32, Bool.true_and] at hgn
      cases hlt : Cmd.letter c
      · rw [hlt] at hgn HL
        rw [Bool.false_and] at hgn
        subst hgn
        go_enter Try.func20, Try.ntmps20
        go_wp2_with (go_at_call 56; refine (HL.out _).mono ?_; rintro e1 w1 ⟨rfl, rfl⟩)
        go_ret
        exact ⟨rfl, rfl⟩
      · rw [hlt] at hgn HL
        rw [Bool.true_and] at hgn
        go_enter Try.func20, Try.ntmps20
        go_wp2_with (go_at_call 56; refine (HL.out _).mono ?_; rintro e1 w1 ⟨rfl, rfl⟩)
        go_loopw [19] (fun i wr => ∃ k : Nat, k ≤ l.length ∧ i = .int .i64 (k : Int) ∧ (∀ j (hj : j < l.length), j < k → Cmd.inName l[j] = true) ∧ w = wr) (fun i _ => l.length - (intOf i).toNat)
        case atStart => exact ⟨0, by omega, rfl, fun j _ h => by omega, rfl⟩
        case round =>
          obtain ⟨k, hk, rfl, hall, rfl⟩ := hrel
          by_cases hkl : k < l.length
          · have hkz : (k : Int) < (l.length : Int) := by omega
            cases hin : Cmd.inName l[k]
            · have hv := all_not hkl hin
              rw [hv] at hgn
              subst hgn
              clear hall hv
              go_wp2_with (go_at_call 57; refine (HI.out _ _).mono ?_; rintro e1 w1 ⟨rfl, rfl⟩; rw [hin])
              go_ret
              exact ⟨rfl, rfl⟩
            · have hall' : Hid (∀ j (hj : j < l.length), j < k + 1 → Cmd.inName l[j] = true) := by
                intro j hj hjk
                by_cases h : j < k
                · exact hall j hj h
                · obtain rfl : j = k := by omega
                  exact hin
              clear hall hgn
              go_wp2_with (go_at_call 57; refine (HI.out _ _).mono ?_; rintro e1 w1 ⟨rfl, rfl⟩; rw [hin])
              exact ⟨⟨k + 1, by omega, by go_num, hall'.out, trivial⟩, by simp [intOf]; omega⟩
          · have hv := all_of hall (by omega)
            rw [hv] at hgn
            subst hgn
            clear hall hv
            go_wp2_with fail
            go_ret
            exact ⟨rfl, rfl⟩
    · have h32' : (32 : Int) < (l.length : Int) := by omega
      rw [decide_eq_false h32, Bool.false_and, Bool.false_and] at hgn
      subst hgn
      go_enter Try.func20, Try.ntmps20
      go_wp2_with fail
      go_ret
      exact ⟨rfl, rfl⟩

set_option maxRecDepth 100000 in
set_option maxHeartbeats 400000 in
theorem refgood_any (l : List UInt8) (w : World) (hl : l.length ≤ 9223372036854775807) : Calls Try.prog 88 #[.string ⟨l.toArray⟩] w fun e w' => e = .returned (.bool (Cmd.gn l)) ∧ w = w' := by
  cases l with
  | nil =>
    go_enter Try.func88, Try.ntmps88
    go_wp2_with fail
    go_loopw [3] (fun i wr => i = .int .i64 0 ∧ w = wr) (fun i _ => 0)
    case atStart => exact ⟨rfl, rfl⟩
    case round =>
      obtain ⟨rfl, rfl⟩ := hrel
      go_wp2_with fail
      go_ret
      exact ⟨rfl, rfl⟩
  | cons c r =>
    have hgn := Cmd.gn_cons (c := c) (r := r)
    have HL := hid (fun w => refletter_any c w)
    have HI := hid (fun c w => refrest_any c w)
    have hlin := fun h => Cmd.letter_in (c := c) h
    obtain ⟨V, hV⟩ : ∃ V, Cmd.gn (c :: r) = V := ⟨_, rfl⟩
    rw [hV] at hgn ⊢
    clear hV
    obtain ⟨l, hll⟩ : ∃ l, c :: r = l := ⟨_, rfl⟩
    have hpos : 0 < l.length := by rw [← hll]; simp
    have hgc : l[0]'hpos = c := by subst hll; rfl
    rw [hll] at hgn hl ⊢
    clear hll
    go_enter Try.func88, Try.ntmps88
    go_wp2_with fail
    go_loopw [3] (fun i wr => ∃ k : Nat, k ≤ l.length ∧ i = .int .i64 (k : Int) ∧ (0 < k → Cmd.letter c = true) ∧ (∀ j (hj : j < l.length), j < k → Cmd.inName l[j] = true) ∧ w = wr) (fun i _ => l.length - (intOf i).toNat)
    case atStart => exact ⟨0, by omega, rfl, fun h => by omega, fun j _ h => by omega, rfl⟩
    case round =>
      obtain ⟨k, hk, rfl, hlet, hall, rfl⟩ := hrel
      by_cases hkl : k < l.length
      · have hkz : (k : Int) < (l.length : Int) := by omega
        cases hlt : Cmd.letter c
        · have hk0 : k = 0 := by
            rcases Nat.eq_zero_or_pos k with h | h
            · exact h
            · have := hlet h; rw [hlt] at this; cases this
          subst hk0
          rw [hlt, Bool.and_false, Bool.false_and] at hgn
          subst hgn
          rw [hlt] at HL
          clear hall hlet hlin hlt
          go_wp2_with (go_at_call 99; refine (HL.out _).mono ?_; rintro e1 w1 ⟨rfl, rfl⟩)
          go_ret
          exact ⟨rfl, rfl⟩
        · rw [hlt] at HL
          cases hin : Cmd.inName l[k]
          · have hv := all_not hkl hin
            have hk0 : k ≠ 0 := by
              rintro rfl
              rw [hgc, hlin hlt] at hin
              cases hin
            have hk0' : ((k : Int) == 0) = false := by simp; omega
            rw [hv, Bool.and_false] at hgn
            subst hgn
            clear hall hv hlet hlin hlt hk0
            go_wp2_with (first | (go_at_call 100; refine (HI.out _ _).mono ?_; rintro e1 w1 ⟨rfl, rfl⟩; rw [hin]))
            go_ret
            exact ⟨rfl, rfl⟩
          · have hall' : Hid (∀ j (hj : j < l.length), j < k + 1 → Cmd.inName l[j] = true) := by
              intro j hj hjk
              by_cases h : j < k
              · exact hall j hj h
              · obtain rfl : j = k := by omega
                exact hin
            have hlt' : Hid (0 < k + 1 → Cmd.letter c = true) := fun _ => hlt
            clear hall hgn hlet hlin hlt
            by_cases hk0 : k = 0
            · subst hk0
              have hinc : Cmd.inName c = true := by rw [← hgc]; exact hin
              go_wp2_with (first | (go_at_call 99; refine (HL.out _).mono ?_; rintro e1 w1 ⟨rfl, rfl⟩) | (go_at_call 100; refine (HI.out _ _).mono ?_; rintro e1 w1 ⟨rfl, rfl⟩; rw [hinc]))
              exact ⟨⟨1, by omega, by go_num, (by first | exact hlt'.out | exact fun _ => trivial), hall'.out, trivial⟩, by simp [intOf]; omega⟩
            · have hk0' : ((k : Int) == 0) = false := by simp; omega
              go_wp2_with (first | (go_at_call 100; refine (HI.out _ _).mono ?_; rintro e1 w1 ⟨rfl, rfl⟩; rw [hin]))
              exact ⟨⟨k + 1, by omega, by go_num, (by first | exact hlt'.out | exact fun _ => trivial), hall'.out, trivial⟩, by simp [intOf]; omega⟩
      · have hv := all_of hall (by omega)
        have hlt := hlet (by omega)
        rw [hv, hlt, Bool.and_true, Bool.and_true] at hgn
        clear hall hv hlet hlin hlt
        have hpz : (0 : Int) < (l.length : Int) := by omega
        by_cases h32 : l.length ≤ 32
        · have h32' : (l.length : Int) < 33 := by omega
          rw [decide_eq_true h32] at hgn
          subst hgn
          go_wp2_with fail
          go_ret
          exact ⟨rfl, rfl⟩
        · have h32' : ¬ (l.length : Int) < 33 := by omega
          rw [decide_eq_false h32] at hgn
          subst hgn
          go_wp2_with fail
          go_ret
          exact ⟨by first | rfl | exact congrArg (fun b => Ending.returned (Value.bool b)) (decide_eq_false (by omega)), rfl⟩
end Go.Proofs.Ytekailaoanpcgaa
