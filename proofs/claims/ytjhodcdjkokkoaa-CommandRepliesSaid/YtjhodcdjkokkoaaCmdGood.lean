/- The walk of command.Good. -/
import Derived.Test.YtjhodcdjkokkoaaNames2
namespace Go.Proofs.Ytjhodcdjkokkoaa
open Go.RowKit

set_option maxRecDepth 100000 in
theorem name_any (l : List UInt8) (w : World) (hl : l.length ≤ 9223372036854775807) : Calls Try.prog 29 #[.string ⟨l.toArray⟩] w fun e w' => e = .returned (.bool (Cmd.gnm l)) ∧ w = w' := by
  have HG := hid (fun w => good_any l w hl)
  have hg : Cmd.gnm l = (l.isEmpty || Cmd.gn l) := rfl
  by_cases h : l = []
  · subst h
    go_enter Try.func29, Try.ntmps29
    go_wp2_with fail
    go_ret
    exact ⟨rfl, rfl⟩
  · have hne : (l == []) = false := by simpa using h
    have hie : l.isEmpty = false := by simpa using h
    rw [hie, Bool.false_or] at hg
    generalize Cmd.gnm l = V at *
    subst hg
    generalize Cmd.gn l = V at *
    go_enter Try.func29, Try.ntmps29
    go_wp2_with (go_at_call 28; refine (HG.out _).mono ?_; rintro e1 w1 ⟨rfl, rfl⟩)
    go_ret
    exact ⟨rfl, rfl⟩

set_option maxRecDepth 100000 in
theorem closure_any (l : List UInt8) (w : World) (hl : l.length ≤ 9223372036854775807) : Calls Try.prog 31 #[.string ⟨l.toArray⟩] w fun e w' => e = .returned (.bool (decide (16 < l.length))) ∧ w = w' := by
  by_cases h : 16 < l.length
  · rw [decide_eq_true h]
    have h' : (16 : Int) < (l.length : Int) := by omega
    go_enter Try.func31, Try.ntmps31
    go_wp2_with fail
    go_ret
    exact ⟨by first | rfl | exact congrArg (fun b => Ending.returned (Value.bool b)) (decide_eq_true (by omega)), rfl⟩
  · rw [decide_eq_false h]
    have h' : ¬ (16 : Int) < (l.length : Int) := by omega
    go_enter Try.func31, Try.ntmps31
    go_wp2_with fail
    go_ret
    exact ⟨by first | rfl | exact congrArg (fun b => Ending.returned (Value.bool b)) (decide_eq_false (by omega)), rfl⟩

set_option maxRecDepth 100000 in
set_option maxHeartbeats 400000 in
theorem index_any (v : Value) (ss : List (List UInt8)) (w : World) (hs : ∀ s ∈ ss, s.length ≤ 9223372036854775807) (hr : Rd w v ss.length 1 (strsV ss)) (hl : ss.length ≤ 9223372036854775807) :
    Calls Try.prog 59 #[v, .func (.func 31) #[] #[]] w fun e w' => ∃ i : Int, e = .returned (.int .i64 i) ∧ (0 ≤ i ↔ (ss.any fun s => decide (16 < s.length)) = true) ∧ w = w' := by
  obtain ⟨ao, c, rfl⟩ := hr.shape
  have HC := hid (fun l w hl => closure_any l w hl)
  go_enter Try.func59, Try.ntmps59
  go_wp2_with fail
  go_loopw [8] (fun i wr => ∃ k : Nat, k ≤ ss.length ∧ i = .int .i64 (k : Int) ∧ (∀ j (hj : j < ss.length), j < k → ss[j].length ≤ 16) ∧ w = wr) (fun i _ => ss.length - (intOf i).toNat)
  case atStart => exact ⟨0, by omega, rfl, fun j _ h => by omega, rfl⟩
  case round =>
    obtain ⟨k, hk, rfl, hall, rfl⟩ := hrel
    by_cases hkl : k < ss.length
    · obtain ⟨b', o', rfl, hc⟩ := hr.at_ (by omega)
      have hck := hc k (by omega)
      have hcell : w.cell? ⟨b', o' + k, none⟩ = some (.string ⟨ss[k].toArray⟩) := by
        rw [hck]; simp [strsV]
      clear hc hck
      have hkz : (k : Int) < (ss.length : Int) := by omega
      have hsk := hs _ (List.getElem_mem hkl)
      by_cases h16 : 16 < ss[k].length
      · have hex : Hid (0 ≤ (k : Int) ↔ (ss.any fun s => decide (16 < s.length)) = true) := by
          refine ⟨fun _ => ?_, fun _ => by omega⟩
          rw [List.any_eq_true]
          exact ⟨_, List.getElem_mem hkl, by simpa using h16⟩
        clear hall
        go_wp2_with (go_at_call 31; refine (HC.out _ _ hsk).mono ?_; rintro e1 w1 ⟨rfl, rfl⟩; rw [decide_eq_true h16])
        go_ret
        exact ⟨_, rfl, hex.out, rfl⟩
      · have hall' : Hid (∀ j (hj : j < ss.length), j < k + 1 → ss[j].length ≤ 16) := by
          intro j hj hjk
          by_cases h : j < k
          · exact hall j hj h
          · obtain rfl : j = k := by omega
            omega
        clear hall
        go_wp2_with (go_at_call 31; refine (HC.out _ _ hsk).mono ?_; rintro e1 w1 ⟨rfl, rfl⟩; rw [decide_eq_false h16])
        exact ⟨⟨k + 1, by omega, by go_num, hall'.out, trivial⟩, by simp [intOf]; omega⟩
    · have hex : Hid (0 ≤ (-1 : Int) ↔ (ss.any fun s => decide (16 < s.length)) = true) := by
        refine ⟨fun h => absurd h (by omega), fun h => ?_⟩
        rw [List.any_eq_true] at h
        obtain ⟨x, hx, h16⟩ := h
        obtain ⟨j, hj, rfl⟩ := List.getElem_of_mem hx
        have := hall j hj (by omega)
        simp at h16
        omega
      clear hall
      go_wp2_with fail
      go_ret
      exact ⟨_, rfl, hex.out, rfl⟩

set_option maxRecDepth 100000 in
theorem contains_any (v : Value) (ss : List (List UInt8)) (w : World) (hs : ∀ s ∈ ss, s.length ≤ 9223372036854775807) (hr : Rd w v ss.length 1 (strsV ss)) (hl : ss.length ≤ 9223372036854775807) :
    Calls Try.prog 30 #[v, .func (.func 31) #[] #[]] w fun e w' => e = .returned (.bool (ss.any fun s => decide (16 < s.length))) ∧ w = w' := by
  obtain ⟨ao, c, rfl⟩ := hr.shape
  have HC := hid (index_any _ ss w hs hr hl)
  cases hb : (ss.any fun s => decide (16 < s.length))
  · go_enter Try.func30, Try.ntmps30
    go_wp2_with (go_at_call 59; refine HC.out.mono ?_; rintro e1 w1 ⟨i, rfl, hi, rfl⟩; rw [hb] at hi; have hi' : ¬ (0 ≤ i) := fun h => by cases hi.1 h)
    go_ret
    exact ⟨by first | rfl | exact congrArg (fun b => Ending.returned (Value.bool b)) (decide_eq_false (by omega)), rfl⟩
  · go_enter Try.func30, Try.ntmps30
    go_wp2_with (go_at_call 59; refine HC.out.mono ?_; rintro e1 w1 ⟨i, rfl, hi, rfl⟩; rw [hb] at hi; have hi' : (0 ≤ i) := hi.2 rfl)
    go_ret
    exact ⟨by first | rfl | exact congrArg (fun b => Ending.returned (Value.bool b)) (decide_eq_true (by omega)), rfl⟩
end Go.Proofs.Ytjhodcdjkokkoaa
