/- The walk of the command laws' same at two commands. -/
import Derived.Test.YtfnhcnmlaginoaaCmdPuts
namespace Go.Proofs.Ytfnhcnmlaginoaa
open Go.RowKit
namespace CmdApart
set_option maxRecDepth 100000 in
set_option maxHeartbeats 4000000 in
theorem same_no (c d : Cm) (v1 v2 : Value) (w : World) (hne : c ≠ d) (hl : c.word.length ≤ 140737488355328) (h1 : Rd w v1 c.word.length 1 (strsV c.word)) (h2 : Rd w v2 d.word.length 1 (strsV d.word)) :
    Calls Try.prog 19 #[cmV c v1, cmV d v2] w fun e w' => e = .returned (.bool false) ∧ Frm No w w' := by
  have HT := hid (fun w1 (hf : Frm No w w1) => texts_any v1 v2 c.word d.word w1 (h1.frm hf (fun _ _ h => h)) (h2.frm hf (fun _ _ h => h)) hl)
  obtain ⟨a1, c1, rfl⟩ := h1.shape
  obtain ⟨a2, c2, rfl⟩ := h2.shape
  clear h1 h2 hl
  unfold cmV
  obtain ⟨k, who, name, other, text, word, n0, n1, n2, n3⟩ := c
  obtain ⟨k', who', name', other', text', word', n0', n1', n2', n3'⟩ := d
  dsimp only at *
  by_cases e_k : k = k'
  case neg =>
    have b : (k == k') = false := by simpa using e_k
    clear hne HT e_k
    go_enter Try.func19, Try.ntmps19
    go_wp2_with fail
    go_ret
    exact ⟨rfl, ((Frm.refl No w).alloc _).alloc _⟩
  subst e_k
  by_cases e_who : who = who'
  case neg =>
    have b : (who == who') = false := by simpa using e_who
    clear hne HT e_who
    go_enter Try.func19, Try.ntmps19
    go_wp2_with fail
    go_ret
    exact ⟨rfl, ((Frm.refl No w).alloc _).alloc _⟩
  subst e_who
  by_cases e_name : name = name'
  case neg =>
    have b : (name == name') = false := by simpa using e_name
    clear hne HT e_name
    go_enter Try.func19, Try.ntmps19
    go_wp2_with fail
    go_ret
    exact ⟨rfl, ((Frm.refl No w).alloc _).alloc _⟩
  subst e_name
  by_cases e_other : other = other'
  case neg =>
    have b : (other == other') = false := by simpa using e_other
    clear hne HT e_other
    go_enter Try.func19, Try.ntmps19
    go_wp2_with fail
    go_ret
    exact ⟨rfl, ((Frm.refl No w).alloc _).alloc _⟩
  subst e_other
  by_cases e_text : text = text'
  case neg =>
    have b : (text == text') = false := by simpa using e_text
    clear hne HT e_text
    go_enter Try.func19, Try.ntmps19
    go_wp2_with fail
    go_ret
    exact ⟨rfl, ((Frm.refl No w).alloc _).alloc _⟩
  subst e_text
  by_cases e_w : word = word'
  case neg =>
    rw [decide_eq_false e_w] at HT
    clear hne e_w
    go_enter Try.func19, Try.ntmps19
    go_wp2_with (go_at_call 58; refine (HT.out _ (((Frm.refl No w).alloc _).alloc _)).mono ?_; rintro e1 w1 ⟨rfl, hf1⟩)
    go_ret
    exact ⟨rfl, (((Frm.refl No w).alloc _).alloc _).thenNo hf1⟩
  subst e_w
  rw [decide_eq_true rfl] at HT
  have i4 : ∀ w, (binOp .eql 23 (.agg #[.int .i64 n0, .int .i64 n1, .int .i64 n2, .int .i64 n3]) (.agg #[.int .i64 n0', .int .i64 n1', .int .i64 n2', .int .i64 n3'])).run Try.prog w = .ok (.bool false) w := by
    intro w
    rw [eql4]
    have : (n0 == n0' && (n1 == n1' && (n2 == n2' && (n3 == n3')))) = false := by
      rw [Bool.eq_false_iff]
      intro h
      simp only [Bool.and_eq_true, beq_iff_eq] at h
      obtain ⟨rfl, rfl, rfl, rfl⟩ := h
      exact hne rfl
    rw [this]
  clear hne
  go_enter Try.func19, Try.ntmps19
  go_wp2_with (go_at_call 58; refine (HT.out _ (((Frm.refl No w).alloc _).alloc _)).mono ?_; rintro e1 w1 ⟨rfl, hf1⟩; have hf := (((Frm.refl No w).alloc _).alloc _).thenNo hf1; have qa := box2a hf1; have qb := box2b hf1)
  go_ret
  exact ⟨rfl, hf⟩

theorem same_dec (c d : Cm) (v1 v2 : Value) (w : World) (hl : c.word.length ≤ 140737488355328) (h1 : Rd w v1 c.word.length 1 (strsV c.word)) (h2 : Rd w v2 d.word.length 1 (strsV d.word)) (b : Bool) (hb : b = true ↔ c = d) :
    Calls Try.prog 19 #[cmV c v1, cmV d v2] w fun e w' => e = .returned (.bool b) ∧ Frm No w w' := by
  cases b
  · exact same_no c d v1 v2 w (fun e => by have := hb.2 e; cases this) hl h1 h2
  · obtain rfl := hb.1 rfl
    exact same_refl c v1 v2 w hl h1 h2
end CmdApart
end Go.Proofs.Ytfnhcnmlaginoaa
