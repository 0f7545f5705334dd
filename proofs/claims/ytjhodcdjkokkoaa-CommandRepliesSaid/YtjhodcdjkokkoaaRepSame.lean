/- The walk of command.Same. -/
import Derived.Test.YtjhodcdjkokkoaaRepAlike
namespace Go.Proofs.Ytjhodcdjkokkoaa
open Go.RowKit
set_option maxRecDepth 100000 in
set_option maxHeartbeats 4000000 in
theorem csame_any (a b : Rp) (v1 m1 v2 m2 : Value) (w : World) (h1 : Rd w v1 a.texts.length 1 (strsV a.texts)) (h2 : Rd w v2 b.texts.length 1 (strsV b.texts)) (g1 : Rd w m1 a.marks.length 1 (fltV a.marks)) (g2 : Rd w m2 b.marks.length 1 (fltV b.marks)) (hl : a.texts.length ≤ 140737488355328) (hl2 : a.marks.length ≤ 140737488355328) (hx : ∀ n ∈ a.marks, n < 18446744073709551616) (hy : ∀ n ∈ b.marks, n < 18446744073709551616) :
    Calls Try.prog 23 #[rpV a v1 m1, rpV b v2 m2] w fun e w' => e = .returned (.bool (Rep.same a b)) ∧ Frm No w w' := by
  obtain ⟨V, hV⟩ : ∃ V, Rep.same a b = V := ⟨_, rfl⟩
  rw [hV]
  have hV := hid hV
  have HT := hid (fun w1 (hf : Frm No w w1) => seq_any v1 v2 a.texts b.texts w1 (h1.frm hf (fun _ _ h => h)) (h2.frm hf (fun _ _ h => h)) hl)
  have HM := hid (fun w1 (hf : Frm No w w1) => eqf_any m1 m2 a.marks b.marks w1 (g1.frm hf (fun _ _ h => h)) (g2.frm hf (fun _ _ h => h)) hl2 hx hy)
  obtain ⟨a1, c1, rfl⟩ := h1.shape
  obtain ⟨a2, c2, rfl⟩ := h2.shape
  obtain ⟨a3, c3, rfl⟩ := g1.shape
  obtain ⟨a4, c4, rfl⟩ := g2.shape
  clear h1 h2 g1 g2 hx hy
  unfold rpV
  obtain ⟨k, line, col, count, text, texts, marks⟩ := a
  obtain ⟨k', line', col', count', text', texts', marks'⟩ := b
  dsimp only at *
  by_cases e_k : k = k'
  case neg =>
    have b1 : (k == k') = false := by simpa using e_k
    have b2 : (k != k') = true := by simpa using e_k
    obtain rfl : V = false := hV.out.symm.trans (by simp [Rep.same, e_k])
    clear hV HT HM e_k
    go_enter Try.func23, Try.ntmps23
    go_wp2_with fail
    go_ret
    exact ⟨rfl, ((Frm.refl No w).alloc _).alloc _⟩
  subst e_k
  by_cases e_line : line = line'
  case neg =>
    have b1 : (line == line') = false := by simpa using e_line
    have b2 : (line != line') = true := by simpa using e_line
    obtain rfl : V = false := hV.out.symm.trans (by simp [Rep.same, e_line])
    clear hV HT HM e_line
    go_enter Try.func23, Try.ntmps23
    go_wp2_with fail
    go_ret
    exact ⟨rfl, ((Frm.refl No w).alloc _).alloc _⟩
  subst e_line
  by_cases e_col : col = col'
  case neg =>
    have b1 : (col == col') = false := by simpa using e_col
    have b2 : (col != col') = true := by simpa using e_col
    obtain rfl : V = false := hV.out.symm.trans (by simp [Rep.same, e_col])
    clear hV HT HM e_col
    go_enter Try.func23, Try.ntmps23
    go_wp2_with fail
    go_ret
    exact ⟨rfl, ((Frm.refl No w).alloc _).alloc _⟩
  subst e_col
  by_cases e_count : count = count'
  case neg =>
    have b1 : (count == count') = false := by simpa using e_count
    have b2 : (count != count') = true := by simpa using e_count
    obtain rfl : V = false := hV.out.symm.trans (by simp [Rep.same, e_count])
    clear hV HT HM e_count
    go_enter Try.func23, Try.ntmps23
    go_wp2_with fail
    go_ret
    exact ⟨rfl, ((Frm.refl No w).alloc _).alloc _⟩
  subst e_count
  by_cases e_text : text = text'
  case neg =>
    have b1 : (text == text') = false := by simpa using e_text
    have b2 : (text != text') = true := by simpa using e_text
    obtain rfl : V = false := hV.out.symm.trans (by simp [Rep.same, e_text])
    clear hV HT HM e_text
    go_enter Try.func23, Try.ntmps23
    go_wp2_with fail
    go_ret
    exact ⟨rfl, ((Frm.refl No w).alloc _).alloc _⟩
  subst e_text
  by_cases e_t : texts = texts'
  case neg =>
    rw [decide_eq_false e_t] at HT
    obtain rfl : V = false := hV.out.symm.trans (by simp [Rep.same, e_t])
    clear hV HM e_t
    go_enter Try.func23, Try.ntmps23
    go_wp2_with (go_at_call 51; refine (HT.out _ (((Frm.refl No w).alloc _).alloc _)).mono ?_; rintro e1 w1 ⟨rfl, hf1⟩; have hf := (((Frm.refl No w).alloc _).alloc _).thenNo hf1; have qa := box2a hf1; have qb := box2b hf1)
    go_ret
    exact ⟨rfl, hf⟩
  subst e_t
  rw [decide_eq_true rfl] at HT
  obtain rfl : decide (marks.map Mk.put = marks'.map Mk.put) = V := by rw [← hV.out]; simp [Rep.same]
  clear hV
  go_enter Try.func23, Try.ntmps23
  go_wp2_with (first | (go_at_call 52; refine (HM.out _ hf).mono ?_; rintro e2 w2 ⟨rfl, hf2⟩) | (go_at_call 51; refine (HT.out _ (((Frm.refl No w).alloc _).alloc _)).mono ?_; rintro e1 w1 ⟨rfl, hf1⟩; have hf := (((Frm.refl No w).alloc _).alloc _).thenNo hf1; have qa := box2a hf1; have qb := box2b hf1))
  go_ret
  exact ⟨rfl, hf.thenNo hf2⟩
end Go.Proofs.Ytjhodcdjkokkoaa
