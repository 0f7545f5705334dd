/- Whether a message's fields fit one another. -/
import Derived.Test.YtaejcejfpcjifaaDoorMsgW3
namespace Go.Proofs.YtaejcejfpcjifaaDoor
open Go.RowKit
open Msg

theorem fits_tail {m : Ms} (h1 : ¬ (m.kind = 1 ∨ m.kind = 4)) (h2 : ¬ m.kind = 2) (h5 : ¬ m.kind = 5) (h9 : ¬ m.kind = 9) (h10 : ¬ (m.kind = 10 ∧ m.nonce = 0)) : fits m = if Msg.tail m = false then true else tailG m := by
  unfold fits
  rw [if_neg h1, if_neg h2, if_neg h5, if_neg h9, if_neg h10]

theorem emp_dec (l : List UInt8) : l.isEmpty = decide (l = []) := by cases l <;> simp
set_option maxRecDepth 100000 in
set_option maxHeartbeats 8000000 in
theorem fits_any (m : Ms) (kv ev : Value) (w : World) (hk : kindG m = true) (hr : ∃ a c, ev = .slice a m.entries.length c) (hl : m.entries.length ≤ 1000000) (ht : m.state.length ≤ 9223372036854775807) (hn : Msg.num m.op = true ∧ Msg.num m.base = true) :
    Calls Tryd.prog 29 #[msV m kv ev] w fun e w' => e = .returned (.bool (fits m)) ∧ Frm No w w' := by
  have hk' := kinds hk
  obtain ⟨ea, ec, rfl⟩ := hr
  obtain ⟨n1, n2⟩ := hn
  replace n1 := num_in n1
  replace n2 := num_in n2
  have HT := hid (fun x hx w1 => tail_at m kv (.slice ea m.entries.length ec) x hx w1)
  clear hk
  unfold msV msC at *
  obtain ⟨kind, from_, born, known, view, last, op, commit, client, number, nonce, text, full, base, state, entries⟩ := m
  dsimp only at *
  rcases hk' with rfl | rfl | rfl | rfl | rfl | rfl | rfl | rfl | rfl | rfl | rfl | rfl
  · have HF : Hid (fits ⟨1, from_, born, known, view, last, op, commit, client, number, nonce, text, full, base, state, entries⟩ = (decide (client < 3) && decide (0 < number))) := hid rfl
    go_enter Tryd.func29, Tryd.ntmps29
    go_wp2_with fail
    all_goals
      go_ret
      exact ⟨by rw [HF.out]; simp [*] <;> omega, (Frm.refl No w).alloc _⟩
  · as_aux_lemma =>
    have HF : Hid (fits ⟨2, from_, born, known, view, last, op, commit, client, number, nonce, text, full, base, state, entries⟩ = (decide (entries.length = 1) && decide (0 < op) && decide (commit ≤ op))) := hid rfl
    go_enter Tryd.func29, Tryd.ntmps29
    go_wp2_with fail
    all_goals
      go_ret
      exact ⟨by rw [HF.out]; first | (simp [*] <;> omega) | (simp [*]; done) | (simp [*]; exact congrArg (fun x => decide (0 < base) || x) (emp_dec _)), (Frm.refl No w).alloc _⟩
  · as_aux_lemma =>
    have HF : Hid (fits ⟨3, from_, born, known, view, last, op, commit, client, number, nonce, text, full, base, state, entries⟩ = true) := hid (by rw [fits_tail (by simp) (by simp) (by simp) (by simp) (by simp)]; simp [Msg.tail])
    go_enter Tryd.func29, Tryd.ntmps29
    go_wp2_with (go_at_call 42; refine (HT.out false (by simp [Msg.tail]) _).mono ?_; rintro e1 w1 ⟨rfl, hf1⟩; have q1 := hf1.box)
    all_goals
      go_ret
      exact ⟨by rw [HF.out]; first | (simp [*] <;> omega) | (simp [*]; done) | (simp [*]; exact congrArg (fun x => decide (0 < base) || x) (emp_dec _)), ((Frm.refl No w).alloc _).thenNo hf1⟩
  · as_aux_lemma =>
    have HF : Hid (fits ⟨4, from_, born, known, view, last, op, commit, client, number, nonce, text, full, base, state, entries⟩ = (decide (client < 3) && decide (0 < number))) := hid rfl
    go_enter Tryd.func29, Tryd.ntmps29
    go_wp2_with fail
    all_goals
      go_ret
      exact ⟨by rw [HF.out]; first | (simp [*] <;> omega) | (simp [*]; done) | (simp [*]; exact congrArg (fun x => decide (0 < base) || x) (emp_dec _)), (Frm.refl No w).alloc _⟩
  · as_aux_lemma =>
    have HF : Hid (fits ⟨5, from_, born, known, view, last, op, commit, client, number, nonce, text, full, base, state, entries⟩ = decide (commit ≤ op)) := hid rfl
    go_enter Tryd.func29, Tryd.ntmps29
    go_wp2_with fail
    all_goals
      go_ret
      exact ⟨by rw [HF.out]; first | (simp [*] <;> omega) | (simp [*]; done) | (simp [*]; exact congrArg (fun x => decide (0 < base) || x) (emp_dec _)), (Frm.refl No w).alloc _⟩
  · as_aux_lemma =>
    have HF : Hid (fits ⟨6, from_, born, known, view, last, op, commit, client, number, nonce, text, full, base, state, entries⟩ = true) := hid (by rw [fits_tail (by simp) (by simp) (by simp) (by simp) (by simp)]; simp [Msg.tail])
    go_enter Tryd.func29, Tryd.ntmps29
    go_wp2_with (go_at_call 42; refine (HT.out false (by simp [Msg.tail]) _).mono ?_; rintro e1 w1 ⟨rfl, hf1⟩; have q1 := hf1.box)
    all_goals
      go_ret
      exact ⟨by rw [HF.out]; first | (simp [*] <;> omega) | (simp [*]; done) | (simp [*]; exact congrArg (fun x => decide (0 < base) || x) (emp_dec _)), ((Frm.refl No w).alloc _).thenNo hf1⟩
  · as_aux_lemma =>
    have HF : Hid (fits ⟨7, from_, born, known, view, last, op, commit, client, number, nonce, text, full, base, state, entries⟩ = (decide (last ≤ view) && decide (commit ≤ op) && decide (base ≤ commit) && decide ((entries.length : Int) = op - base) && (decide (0 < base) || decide (state = [])))) := hid (by rw [fits_tail (by simp) (by simp) (by simp) (by simp) (by simp)]; simp [Msg.tail, tailG])
    go_enter Tryd.func29, Tryd.ntmps29
    go_wp2_with (go_at_call 42; refine (HT.out true (by simp [Msg.tail]) _).mono ?_; rintro e1 w1 ⟨rfl, hf1⟩; have q1 := hf1.box)
    all_goals
      go_ret
      exact ⟨by rw [HF.out]; first | (simp [*] <;> omega) | (simp [*]; done) | (simp [*]; exact congrArg (fun x => decide (0 < base) || x) (emp_dec _)), ((Frm.refl No w).alloc _).thenNo hf1⟩
  · as_aux_lemma =>
    have HF : Hid (fits ⟨8, from_, born, known, view, last, op, commit, client, number, nonce, text, full, base, state, entries⟩ = (decide (last ≤ view) && decide (commit ≤ op) && decide (base ≤ commit) && decide ((entries.length : Int) = op - base) && (decide (0 < base) || decide (state = [])))) := hid (by rw [fits_tail (by simp) (by simp) (by simp) (by simp) (by simp)]; simp [Msg.tail, tailG])
    go_enter Tryd.func29, Tryd.ntmps29
    go_wp2_with (go_at_call 42; refine (HT.out true (by simp [Msg.tail]) _).mono ?_; rintro e1 w1 ⟨rfl, hf1⟩; have q1 := hf1.box)
    all_goals
      go_ret
      exact ⟨by rw [HF.out]; first | (simp [*] <;> omega) | (simp [*]; done) | (simp [*]; exact congrArg (fun x => decide (0 < base) || x) (emp_dec _)), ((Frm.refl No w).alloc _).thenNo hf1⟩
  · as_aux_lemma =>
    have HF : Hid (fits ⟨9, from_, born, known, view, last, op, commit, client, number, nonce, text, full, base, state, entries⟩ = decide (0 < nonce)) := hid rfl
    go_enter Tryd.func29, Tryd.ntmps29
    go_wp2_with fail
    all_goals
      go_ret
      exact ⟨by rw [HF.out]; first | (simp [*] <;> omega) | (simp [*]; done) | (simp [*]; exact congrArg (fun x => decide (0 < base) || x) (emp_dec _)), (Frm.refl No w).alloc _⟩
  · as_aux_lemma =>
    by_cases h0 : nonce = 0
    · subst h0
      have HF : Hid (fits ⟨10, from_, born, known, view, last, op, commit, client, number, 0, text, full, base, state, entries⟩ = false) := hid rfl
      go_enter Tryd.func29, Tryd.ntmps29
      go_wp2_with fail
      all_goals
        go_ret
        exact ⟨by rw [HF.out]; first | (simp [*] <;> omega) | (simp [*]; done) | (simp [*]; exact congrArg (fun x => decide (0 < base) || x) (emp_dec _)), (Frm.refl No w).alloc _⟩
    · have hne : (nonce == 0) = false := by simpa using h0
      cases full
      · have HF : Hid (fits ⟨10, from_, born, known, view, last, op, commit, client, number, nonce, text, false, base, state, entries⟩ = true) := hid (by rw [fits_tail (by simp) (by simp) (by simp) (by simp) (by simp [h0])]; simp [Msg.tail])
        clear h0
        go_enter Tryd.func29, Tryd.ntmps29
        go_wp2_with (go_at_call 42; refine (HT.out false (by simp [Msg.tail]) _).mono ?_; rintro e1 w1 ⟨rfl, hf1⟩; have q1 := hf1.box)
        all_goals
          go_ret
          exact ⟨by rw [HF.out]; first | (simp [*] <;> omega) | (simp [*]; done) | (simp [*]; exact congrArg (fun x => decide (0 < base) || x) (emp_dec _)), ((Frm.refl No w).alloc _).thenNo hf1⟩
      · have HF : Hid (fits ⟨10, from_, born, known, view, last, op, commit, client, number, nonce, text, true, base, state, entries⟩ = (decide (last ≤ view) && decide (commit ≤ op) && decide (base ≤ commit) && decide ((entries.length : Int) = op - base) && (decide (0 < base) || decide (state = [])))) := hid (by rw [fits_tail (by simp) (by simp) (by simp) (by simp) (by simp [h0])]; simp [Msg.tail, tailG])
        clear h0
        go_enter Tryd.func29, Tryd.ntmps29
        go_wp2_with (go_at_call 42; refine (HT.out true (by simp [Msg.tail]) _).mono ?_; rintro e1 w1 ⟨rfl, hf1⟩; have q1 := hf1.box)
        all_goals
          go_ret
          exact ⟨by rw [HF.out]; first | (simp [*] <;> omega) | (simp [*]; done) | (simp [*]; exact congrArg (fun x => decide (0 < base) || x) (emp_dec _)), ((Frm.refl No w).alloc _).thenNo hf1⟩
  · as_aux_lemma =>
    have HF : Hid (fits ⟨11, from_, born, known, view, last, op, commit, client, number, nonce, text, full, base, state, entries⟩ = true) := hid (by rw [fits_tail (by simp) (by simp) (by simp) (by simp) (by simp)]; simp [Msg.tail])
    go_enter Tryd.func29, Tryd.ntmps29
    go_wp2_with (go_at_call 42; refine (HT.out false (by simp [Msg.tail]) _).mono ?_; rintro e1 w1 ⟨rfl, hf1⟩; have q1 := hf1.box)
    all_goals
      go_ret
      exact ⟨by rw [HF.out]; first | (simp [*] <;> omega) | (simp [*]; done) | (simp [*]; exact congrArg (fun x => decide (0 < base) || x) (emp_dec _)), ((Frm.refl No w).alloc _).thenNo hf1⟩
  · as_aux_lemma =>
    have HF : Hid (fits ⟨12, from_, born, known, view, last, op, commit, client, number, nonce, text, full, base, state, entries⟩ = (decide (last ≤ view) && decide (commit ≤ op) && decide (base ≤ commit) && decide ((entries.length : Int) = op - base) && (decide (0 < base) || decide (state = [])))) := hid (by rw [fits_tail (by simp) (by simp) (by simp) (by simp) (by simp)]; simp [Msg.tail, tailG])
    go_enter Tryd.func29, Tryd.ntmps29
    go_wp2_with (go_at_call 42; refine (HT.out true (by simp [Msg.tail]) _).mono ?_; rintro e1 w1 ⟨rfl, hf1⟩; have q1 := hf1.box)
    all_goals
      go_ret
      exact ⟨by rw [HF.out]; first | (simp [*] <;> omega) | (simp [*]; done) | (simp [*]; exact congrArg (fun x => decide (0 < base) || x) (emp_dec _)), ((Frm.refl No w).alloc _).thenNo hf1⟩
end Go.Proofs.YtaejcejfpcjifaaDoor
