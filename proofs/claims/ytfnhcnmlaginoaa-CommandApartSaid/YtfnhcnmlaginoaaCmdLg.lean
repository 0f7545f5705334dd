/- The walk of the command laws' large. -/
import Derived.Test.YtfnhcnmlaginoaaRaw
namespace Go.Proofs.Ytfnhcnmlaginoaa
open Go.RowKit

set_option maxRecDepth 100000 in
set_option maxHeartbeats 2000000 in
theorem lg_any (c : Cm) (wv : Value) (w : World) (hsm : Cmd.small c) (hr : Rd w wv c.word.length 1 (strsV c.word)) :
    Calls Try.prog 13 #[cmV c wv] w fun e w' => e = .returned (.bool (Cmd.lg c)) ∧ Frm No w w' := by
  obtain ⟨s1, s2, s3, s4, s5, s6⟩ := hsm
  obtain ⟨V, hV⟩ : ∃ V, Cmd.lg c = V := ⟨_, rfl⟩
  rw [hV]
  obtain ⟨ao, cp, rfl⟩ := hr.shape
  obtain ⟨k, who, name, other, text, word, n0, n1, n2, n3⟩ := c
  unfold Cmd.lg at hV
  dsimp only at *
  have key : (200 < who.length ∨ 200 < name.length ∨ 200 < other.length ∨ 3000 < text.length ∨ 80 < word.length) ∨ (¬ 200 < who.length ∧ ¬ 200 < name.length ∧ ¬ 200 < other.length ∧ ¬ 3000 < text.length ∧ ¬ 80 < word.length) := by omega
  rcases key with h | ⟨h1, h2, h3, h4, h5⟩
  · obtain rfl : V = true := by
      rw [← hV]
      simp only [Bool.or_eq_true, decide_eq_true_eq]
      omega
    have key : 200 < who.length ∨ (¬ 200 < who.length ∧ 200 < name.length) ∨ (¬ 200 < who.length ∧ ¬ 200 < name.length ∧ 200 < other.length) ∨ (¬ 200 < who.length ∧ ¬ 200 < name.length ∧ ¬ 200 < other.length ∧ 3000 < text.length) ∨ (¬ 200 < who.length ∧ ¬ 200 < name.length ∧ ¬ 200 < other.length ∧ ¬ 3000 < text.length ∧ 80 < word.length) := by omega
    clear hV h hr s6
    unfold cmV
    dsimp only
    rcases key with h1 | ⟨h1, h2⟩ | ⟨h1, h2, h3⟩ | ⟨h1, h2, h3, h4⟩ | ⟨h1, h2, h3, h4, h5⟩
    · have g1 : (200 : Int) < who.length := by omega
      go_enter Try.func13, Try.ntmps13
      go_wp2_with fail
      go_ret
      exact ⟨rfl, (Frm.refl No w).alloc _⟩
    · have g1 : ¬ (200 : Int) < who.length := by omega
      have g2 : (200 : Int) < name.length := by omega
      go_enter Try.func13, Try.ntmps13
      go_wp2_with fail
      go_ret
      exact ⟨rfl, (Frm.refl No w).alloc _⟩
    · have g1 : ¬ (200 : Int) < who.length := by omega
      have g2 : ¬ (200 : Int) < name.length := by omega
      have g3 : (200 : Int) < other.length := by omega
      go_enter Try.func13, Try.ntmps13
      go_wp2_with fail
      go_ret
      exact ⟨rfl, (Frm.refl No w).alloc _⟩
    · have g1 : ¬ (200 : Int) < who.length := by omega
      have g2 : ¬ (200 : Int) < name.length := by omega
      have g3 : ¬ (200 : Int) < other.length := by omega
      have g4 : (3000 : Int) < text.length := by omega
      go_enter Try.func13, Try.ntmps13
      go_wp2_with fail
      go_ret
      exact ⟨rfl, (Frm.refl No w).alloc _⟩
    · have g1 : ¬ (200 : Int) < who.length := by omega
      have g2 : ¬ (200 : Int) < name.length := by omega
      have g3 : ¬ (200 : Int) < other.length := by omega
      have g4 : ¬ (3000 : Int) < text.length := by omega
      have g5 : (80 : Int) < word.length := by omega
      go_enter Try.func13, Try.ntmps13
      go_wp2_with fail
      go_ret
      exact ⟨rfl, (Frm.refl No w).alloc _⟩
  · rw [decide_eq_false h1, decide_eq_false h2, decide_eq_false h3, decide_eq_false h4, decide_eq_false h5] at hV
    simp only [Bool.or_self, Bool.false_or] at hV
    replace hV := hid hV
    have g1 : ¬ (200 : Int) < who.length := by omega
    have g2 : ¬ (200 : Int) < name.length := by omega
    have g3 : ¬ (200 : Int) < other.length := by omega
    have g4 : ¬ (3000 : Int) < text.length := by omega
    have g5 : ¬ (80 : Int) < word.length := by omega
    have HR := hid (fun w1 (hf : Frm No w w1) => hr.frm hf (fun _ _ h => h))
    have HS := hid s6
    clear hr s6
    unfold cmV
    dsimp only
    go_enter Try.func13, Try.ntmps13
    go_wp2_with fail
    go_loopw [3] (fun i wr => ∃ j : Nat, j ≤ word.length ∧ i = .int .i64 (j : Int) ∧ (∀ q (hq : q < word.length), q < j → ¬ 100 < word[q].length) ∧ wr = w.alloc (.cells #[.int .i64 k, .string ⟨who.toArray⟩, .string ⟨name.toArray⟩, .string ⟨other.toArray⟩, .string ⟨text.toArray⟩, .slice ao word.length cp, .int .i64 n0, .int .i64 n1, .int .i64 n2, .int .i64 n3] 25)) (fun i _ => word.length - (intOf i).toNat)
    case atStart => exact ⟨0, by omega, rfl, fun q _ h => by omega, rfl⟩
    case round =>
      obtain ⟨j, hj, rfl, hall, rfl⟩ := hrel
      by_cases hjl : j < word.length
      · obtain ⟨b, o, rfl, hc⟩ := (HR.out _ (Frm.refl _ _)).at_ (by omega)
        have c1 : w.cell? ⟨b, o + j, none⟩ = some (.string ⟨word[j].toArray⟩) := by rw [hc j (by omega)]; simp [strsV]
        have c2 := cell_alloc c1 (.cells #[.int .i64 k, .string ⟨who.toArray⟩, .string ⟨name.toArray⟩, .string ⟨other.toArray⟩, .string ⟨text.toArray⟩, .slice (some ⟨b, o, none⟩) word.length cp, .int .i64 n0, .int .i64 n1, .int .i64 n2, .int .i64 n3] 25)
        have sj := HS.out _ (List.getElem_mem hjl)
        have kz : (j : Int) < (word.length : Int) := by omega
        have hx : Hid (word[j]'hjl = word[j]'hjl) := rfl
        clear hc c1
        by_cases hb : 100 < word[j].length
        · obtain rfl : V = true := by
            rw [← hV.out, List.any_eq_true]
            exact ⟨_, List.getElem_mem hjl, decide_eq_true hb⟩
          have hb' : (100 : Int) < (word[j].length : Int) := by omega
          clear hall hV
          generalize word[j] = x at *
          go_wp2_with fail
          go_ret
          exact ⟨rfl, (Frm.refl No w).alloc _⟩
        · have hall' : Hid (∀ q (hq : q < word.length), q < j + 1 → ¬ 100 < word[q].length) := by
            refine hid (fun q hq h => ?_)
            by_cases h' : q < j
            · exact hall q hq h'
            · obtain rfl : q = j := by omega
              exact hb
          have hb' : ¬ (100 : Int) < (word[j].length : Int) := by omega
          clear hall hb
          generalize word[j] = x at *
          go_wp2_with fail
          exact ⟨⟨j + 1, by omega, by go_num, hall'.out, trivial⟩, by simp [intOf]; omega⟩
      · obtain rfl : V = false := by
          rw [← hV.out, List.any_eq_false]
          intro s hs
          obtain ⟨q, hq, rfl⟩ := List.getElem_of_mem hs
          have := hall q hq (by omega)
          simpa using this
        have kz : ¬ (j : Int) < (word.length : Int) := by omega
        clear hall hV
        go_wp2_with fail
        go_ret
        exact ⟨rfl, (Frm.refl No w).alloc _⟩
end Go.Proofs.Ytfnhcnmlaginoaa
