/- The walks of command.Good and of the reference's Good. -/
import Derived.Test.YtjhodcdjkokkoaaCmdGood
namespace Go.Proofs.Ytjhodcdjkokkoaa
open Go.RowKit

/-- A command as a value: its word lies in a slice. -/
def cmV (c : Cm) (v : Value) : Value := .agg #[.int .i64 c.kind, .string ⟨c.who.toArray⟩, .string ⟨c.name.toArray⟩, .string ⟨c.other.toArray⟩, .string ⟨c.text.toArray⟩, v, .int .i64 c.n0, .int .i64 c.n1, .int .i64 c.n2, .int .i64 c.n3]
def Cmd.small (c : Cm) : Prop := c.who.length ≤ 9223372036854775807 ∧ c.name.length ≤ 9223372036854775807 ∧ c.other.length ≤ 9223372036854775807 ∧ c.text.length ≤ 9223372036854775807 ∧ c.word.length ≤ 9223372036854775807 ∧ ∀ s ∈ c.word, s.length ≤ 9223372036854775807

def Cmd.nb (n : Int) (b : Bool) : Prop := (b = true → -9007199254740992 ≤ n ∧ n ≤ 9007199254740992) ∧ (b = false → n < -9007199254740992 ∨ 9007199254740992 < n)
theorem Cmd.nb_of (n : Int) : Cmd.nb n (Cmd.inNum n) := by
  unfold Cmd.nb Cmd.inNum
  constructor
  · intro h; simpa using h
  · intro h
    simp only [Bool.and_eq_false_iff, decide_eq_false_iff_not] at h
    omega
theorem arr4_0 (a b c d : Int) (w : World) : (Instr.index 23 (.agg #[.int .i64 a, .int .i64 b, .int .i64 c, .int .i64 d]) (.int .i64 0)).run Try.prog w = .ok (.int .i64 a) w := by kernel_rfl
theorem arr4_1 (a b c d : Int) (w : World) : (Instr.index 23 (.agg #[.int .i64 a, .int .i64 b, .int .i64 c, .int .i64 d]) (.int .i64 1)).run Try.prog w = .ok (.int .i64 b) w := by kernel_rfl
theorem arr4_2 (a b c d : Int) (w : World) : (Instr.index 23 (.agg #[.int .i64 a, .int .i64 b, .int .i64 c, .int .i64 d]) (.int .i64 2)).run Try.prog w = .ok (.int .i64 c) w := by kernel_rfl
theorem arr4_3 (a b c d : Int) (w : World) : (Instr.index 23 (.agg #[.int .i64 a, .int .i64 b, .int .i64 c, .int .i64 d]) (.int .i64 3)).run Try.prog w = .ok (.int .i64 d) w := by kernel_rfl
theorem lgood (c : Cm) : Cmd.good c = (decide (1 ≤ c.kind) && decide (c.kind ≤ 18) && Cmd.gn c.who && Cmd.gnm c.name && Cmd.gnm c.other && decide (c.text.length ≤ 65536) && decide (c.word.length ≤ 64) && !(c.word.any fun s => decide (16 < s.length)) && Cmd.inNum c.n0 && Cmd.inNum c.n1 && Cmd.inNum c.n2 && Cmd.inNum c.n3) := by
  have : (!(c.word.any fun s => decide (16 < s.length))) = c.word.all (fun s => decide (s.length ≤ 16)) := by
    rw [Bool.eq_iff_iff]
    simp
  unfold Cmd.good
  rw [this]

set_option maxRecDepth 100000 in
set_option maxHeartbeats 6000000 in
theorem cgood_loop (c : Cm) (wv : Value) (w : World) (hsm : Cmd.small c) (hr : Rd w wv c.word.length 1 (strsV c.word)) (k1 : 1 ≤ c.kind) (k2 : c.kind ≤ 18) (g1 : Cmd.gn c.who = true) (g2 : Cmd.gnm c.name = true) (g3 : Cmd.gnm c.other = true) (ht : c.text.length ≤ 65536) (hw : c.word.length ≤ 64) (g4 : (c.word.any fun s => decide (16 < s.length)) = false) :
    Calls Try.prog 11 #[cmV c wv] w fun e w' => e = .returned (.bool (Cmd.good c)) ∧ Frm No w w' := by
  obtain ⟨s1, s2, s3, s4, s5, s6⟩ := hsm
  have HG := hid (fun w => good_any c.who w s1)
  have HC := hid (fun w' (hf : Frm No w w') => contains_any wv c.word w' s6 (hr.frm hf (fun _ _ h => h)) s5)
  have b0 := Cmd.nb_of c.n0
  have b1 := Cmd.nb_of c.n1
  have b2 := Cmd.nb_of c.n2
  have b3 := Cmd.nb_of c.n3
  have hg := lgood c
  obtain ⟨ao, cp, rfl⟩ := hr.shape
  unfold cmV
  generalize hV : Cmd.good c = V at hg ⊢
  clear hV hr s6
  obtain ⟨k, who, name, other, text, word, n0, n1, n2, n3⟩ := c
  dsimp only at *
  generalize Cmd.gn who = G1 at *
  generalize hG2 : Cmd.gnm name = G2 at *
  generalize hG3 : Cmd.gnm other = G3 at *
  replace hG2 := hid hG2
  replace hG3 := hid hG3
  generalize (word.any fun s => decide (16 < s.length)) = G4 at *
  generalize Cmd.inNum n0 = B0 at *
  generalize Cmd.inNum n1 = B1 at *
  generalize Cmd.inNum n2 = B2 at *
  generalize Cmd.inNum n3 = B3 at *
  subst g1 g2 g3 g4
  simp only [decide_eq_true k1, decide_eq_true k2, decide_eq_true ht, decide_eq_true hw, Bool.and_true, Bool.true_and, Bool.not_false] at hg
  have k1' : ¬ k < 1 := by omega
  have k2' : ¬ 18 < k := by omega
  have ht' : ¬ (65536 : Int) < (text.length : Int) := by omega
  have hw' : ¬ (64 : Int) < (word.length : Int) := by omega
  have i0 := hid (fun w => arr4_0 n0 n1 n2 n3 w)
  have i1 := hid (fun w => arr4_1 n0 n1 n2 n3 w)
  have i2 := hid (fun w => arr4_2 n0 n1 n2 n3 w)
  have i3 := hid (fun w => arr4_3 n0 n1 n2 n3 w)
  go_enter Try.func11, Try.ntmps11
  go_wp2_with (first | (go_at_call 28; refine (HG.out _).mono ?_; rintro e1 w1 ⟨rfl, rfl⟩) | (go_at_call 29; refine (name_any _ _ (by assumption)).mono ?_; rintro e1 w1 ⟨rfl, rfl⟩; first | rw [hG2.out] | rw [hG3.out]) | (go_at_call 30; refine (HC.out _ ((Frm.refl No w).alloc _)).mono ?_; rintro e1 w1 ⟨rfl, rfl⟩))
  go_loopw [48] (fun i wr => ∃ j : Nat, j ≤ 4 ∧ i = .int .i64 (j : Int) ∧ (0 < j → B0 = true) ∧ (1 < j → B1 = true) ∧ (2 < j → B2 = true) ∧ (3 < j → B3 = true) ∧ Frm No w wr) (fun i _ => 4 - (intOf i).toNat)
  case atStart => exact ⟨0, by omega, rfl, fun h => by omega, fun h => by omega, fun h => by omega, fun h => by omega, (Frm.refl No w).alloc _⟩
  case round =>
    obtain ⟨j, hj, rfl, q0, q1, q2, q3, hf⟩ := hrel
    rcases (by omega : j = 0 ∨ j = 1 ∨ j = 2 ∨ j = 3 ∨ j = 4) with rfl | rfl | rfl | rfl | rfl
    · replace i0 := i0.out
      cases B0
      · simp only [Bool.false_and] at hg
        subst hg
        clear q0 q1 q2 q3
        rcases b0.2 rfl with hb | hb
        · go_wp2_with fail
          go_ret
          exact ⟨rfl, hf⟩
        · have hb' : ¬ n0 < -9007199254740992 := by omega
          go_wp2_with fail
          go_ret
          exact ⟨rfl, hf⟩
      · obtain ⟨x1, x2⟩ := b0.1 rfl
        have x1' : ¬ n0 < -9007199254740992 := by omega
        have x2' : ¬ 9007199254740992 < n0 := by omega
        go_wp2_with fail
        exact ⟨⟨1, by omega, by go_num, (by first | exact fun _ => rfl | exact fun _ => trivial), fun h => by omega, fun h => by omega, fun h => by omega, hf⟩, by simp [intOf]⟩
    · replace i1 := i1.out
      cases B1
      · simp only [Bool.and_false, Bool.false_and] at hg
        subst hg
        clear q0 q1 q2 q3
        rcases b1.2 rfl with hb | hb
        · go_wp2_with fail
          go_ret
          exact ⟨rfl, hf⟩
        · have hb' : ¬ n1 < -9007199254740992 := by omega
          go_wp2_with fail
          go_ret
          exact ⟨rfl, hf⟩
      · obtain ⟨x1, x2⟩ := b1.1 rfl
        have x1' : ¬ n1 < -9007199254740992 := by omega
        have x2' : ¬ 9007199254740992 < n1 := by omega
        go_wp2_with fail
        exact ⟨⟨2, by omega, by go_num, fun _ => q0 (by omega), (by first | exact fun _ => rfl | exact fun _ => trivial), fun h => by omega, fun h => by omega, hf⟩, by simp [intOf]⟩
    · replace i2 := i2.out
      cases B2
      · simp only [Bool.and_false, Bool.false_and] at hg
        subst hg
        clear q0 q1 q2 q3
        rcases b2.2 rfl with hb | hb
        · go_wp2_with fail
          go_ret
          exact ⟨rfl, hf⟩
        · have hb' : ¬ n2 < -9007199254740992 := by omega
          go_wp2_with fail
          go_ret
          exact ⟨rfl, hf⟩
      · obtain ⟨x1, x2⟩ := b2.1 rfl
        have x1' : ¬ n2 < -9007199254740992 := by omega
        have x2' : ¬ 9007199254740992 < n2 := by omega
        go_wp2_with fail
        exact ⟨⟨3, by omega, by go_num, fun _ => q0 (by omega), fun _ => q1 (by omega), (by first | exact fun _ => rfl | exact fun _ => trivial), fun h => by omega, hf⟩, by simp [intOf]⟩
    · replace i3 := i3.out
      cases B3
      · simp only [Bool.and_false] at hg
        subst hg
        clear q0 q1 q2 q3
        rcases b3.2 rfl with hb | hb
        · go_wp2_with fail
          go_ret
          exact ⟨rfl, hf⟩
        · have hb' : ¬ n3 < -9007199254740992 := by omega
          go_wp2_with fail
          go_ret
          exact ⟨rfl, hf⟩
      · obtain ⟨x1, x2⟩ := b3.1 rfl
        have x1' : ¬ n3 < -9007199254740992 := by omega
        have x2' : ¬ 9007199254740992 < n3 := by omega
        go_wp2_with fail
        exact ⟨⟨4, by omega, by go_num, fun _ => q0 (by omega), fun _ => q1 (by omega), fun _ => q2 (by omega), (by first | exact fun _ => rfl | exact fun _ => trivial), hf⟩, by simp [intOf]⟩
    · rw [q0 (by omega), q1 (by omega), q2 (by omega), q3 (by omega)] at hg
      clear q0 q1 q2 q3
      subst hg
      go_wp2_with fail
      go_ret
      exact ⟨rfl, hf⟩

set_option maxRecDepth 100000 in
set_option maxHeartbeats 6000000 in
theorem cgood_any (c : Cm) (wv : Value) (w : World) (hsm : Cmd.small c) (hr : Rd w wv c.word.length 1 (strsV c.word)) :
    Calls Try.prog 11 #[cmV c wv] w fun e w' => e = .returned (.bool (Cmd.good c)) ∧ Frm No w w' := by
  have hsm0 := hsm
  have HL := hid (fun k1 k2 g1 g2 g3 ht hw g4 => cgood_loop c wv w hsm hr k1 k2 g1 g2 g3 ht hw g4)
  clear hsm0
  obtain ⟨s1, s2, s3, s4, s5, s6⟩ := hsm
  have HG := hid (fun w => good_any c.who w s1)
  have HC := hid (fun w' (hf : Frm No w w') => contains_any wv c.word w' s6 (hr.frm hf (fun _ _ h => h)) s5)
  have b0 := Cmd.nb_of c.n0
  have b1 := Cmd.nb_of c.n1
  have b2 := Cmd.nb_of c.n2
  have b3 := Cmd.nb_of c.n3
  have hg := lgood c
  obtain ⟨ao, cp, rfl⟩ := hr.shape
  unfold cmV at HL ⊢
  generalize hV : Cmd.good c = V at hg HL ⊢
  clear hV hr s6
  obtain ⟨k, who, name, other, text, word, n0, n1, n2, n3⟩ := c
  dsimp only at *
  generalize Cmd.gn who = G1 at *
  generalize hG2 : Cmd.gnm name = G2 at *
  generalize hG3 : Cmd.gnm other = G3 at *
  replace hG2 := hid hG2
  replace hG3 := hid hG3
  generalize (word.any fun s => decide (16 < s.length)) = G4 at *
  generalize Cmd.inNum n0 = B0 at *
  generalize Cmd.inNum n1 = B1 at *
  generalize Cmd.inNum n2 = B2 at *
  generalize Cmd.inNum n3 = B3 at *
  rcases Classical.em (1 ≤ k) with hk | hk
  rotate_left
  · rw [decide_eq_false hk] at hg
    have hk' : k < 1 := by omega
    simp only [Bool.false_and] at hg
    subst hg
    go_enter Try.func11, Try.ntmps11
    go_wp2_with (first | (go_at_call 28; refine (HG.out _).mono ?_; rintro e1 w1 ⟨rfl, rfl⟩) | (go_at_call 29; refine (name_any _ _ (by assumption)).mono ?_; rintro e1 w1 ⟨rfl, rfl⟩; first | rw [hG2.out] | rw [hG3.out]) | (go_at_call 30; refine (HC.out _ ((Frm.refl No w).alloc _)).mono ?_; rintro e1 w1 ⟨rfl, rfl⟩))
    go_ret
    exact ⟨rfl, (Frm.refl No w).alloc _⟩
  rw [decide_eq_true hk] at hg
  have hk' : ¬ k < 1 := by omega
  rcases Classical.em (k ≤ 18) with hk2 | hk2
  rotate_left
  · rw [decide_eq_false hk2] at hg
    have hk2' : 18 < k := by omega
    simp only [Bool.and_false, Bool.false_and] at hg
    subst hg
    go_enter Try.func11, Try.ntmps11
    go_wp2_with (first | (go_at_call 28; refine (HG.out _).mono ?_; rintro e1 w1 ⟨rfl, rfl⟩) | (go_at_call 29; refine (name_any _ _ (by assumption)).mono ?_; rintro e1 w1 ⟨rfl, rfl⟩; first | rw [hG2.out] | rw [hG3.out]) | (go_at_call 30; refine (HC.out _ ((Frm.refl No w).alloc _)).mono ?_; rintro e1 w1 ⟨rfl, rfl⟩))
    go_ret
    exact ⟨rfl, (Frm.refl No w).alloc _⟩
  rw [decide_eq_true hk2] at hg
  have hk2' : ¬ 18 < k := by omega
  cases G1
  · simp only [Bool.and_false, Bool.false_and, Bool.and_true] at hg
    subst hg
    go_enter Try.func11, Try.ntmps11
    go_wp2_with (first | (go_at_call 28; refine (HG.out _).mono ?_; rintro e1 w1 ⟨rfl, rfl⟩) | (go_at_call 29; refine (name_any _ _ (by assumption)).mono ?_; rintro e1 w1 ⟨rfl, rfl⟩; first | rw [hG2.out] | rw [hG3.out]) | (go_at_call 30; refine (HC.out _ ((Frm.refl No w).alloc _)).mono ?_; rintro e1 w1 ⟨rfl, rfl⟩))
    go_ret
    exact ⟨rfl, (Frm.refl No w).alloc _⟩
  cases G2
  · simp only [Bool.and_false, Bool.false_and, Bool.and_true] at hg
    subst hg
    go_enter Try.func11, Try.ntmps11
    go_wp2_with (first | (go_at_call 28; refine (HG.out _).mono ?_; rintro e1 w1 ⟨rfl, rfl⟩) | (go_at_call 29; refine (name_any _ _ (by assumption)).mono ?_; rintro e1 w1 ⟨rfl, rfl⟩; first | rw [hG2.out] | rw [hG3.out]) | (go_at_call 30; refine (HC.out _ ((Frm.refl No w).alloc _)).mono ?_; rintro e1 w1 ⟨rfl, rfl⟩))
    go_ret
    exact ⟨rfl, (Frm.refl No w).alloc _⟩
  cases G3
  · simp only [Bool.and_false, Bool.false_and, Bool.and_true] at hg
    subst hg
    go_enter Try.func11, Try.ntmps11
    go_wp2_with (first | (go_at_call 28; refine (HG.out _).mono ?_; rintro e1 w1 ⟨rfl, rfl⟩) | (go_at_call 29; refine (name_any _ _ (by assumption)).mono ?_; rintro e1 w1 ⟨rfl, rfl⟩; first | rw [hG2.out] | rw [hG3.out]) | (go_at_call 30; refine (HC.out _ ((Frm.refl No w).alloc _)).mono ?_; rintro e1 w1 ⟨rfl, rfl⟩))
    go_ret
    exact ⟨rfl, (Frm.refl No w).alloc _⟩
  rcases Classical.em (text.length ≤ 65536) with ht | ht
  rotate_left
  · rw [decide_eq_false ht] at hg
    have ht' : (65536 : Int) < (text.length : Int) := by omega
    simp only [Bool.and_false, Bool.false_and, Bool.and_true] at hg
    subst hg
    go_enter Try.func11, Try.ntmps11
    go_wp2_with (first | (go_at_call 28; refine (HG.out _).mono ?_; rintro e1 w1 ⟨rfl, rfl⟩) | (go_at_call 29; refine (name_any _ _ (by assumption)).mono ?_; rintro e1 w1 ⟨rfl, rfl⟩; first | rw [hG2.out] | rw [hG3.out]) | (go_at_call 30; refine (HC.out _ ((Frm.refl No w).alloc _)).mono ?_; rintro e1 w1 ⟨rfl, rfl⟩))
    go_ret
    exact ⟨rfl, (Frm.refl No w).alloc _⟩
  rw [decide_eq_true ht] at hg
  have ht' : ¬ (65536 : Int) < (text.length : Int) := by omega
  rcases Classical.em (word.length ≤ 64) with hw | hw
  rotate_left
  · rw [decide_eq_false hw] at hg
    have hw' : (64 : Int) < (word.length : Int) := by omega
    simp only [Bool.and_false, Bool.false_and, Bool.and_true] at hg
    subst hg
    go_enter Try.func11, Try.ntmps11
    go_wp2_with (first | (go_at_call 28; refine (HG.out _).mono ?_; rintro e1 w1 ⟨rfl, rfl⟩) | (go_at_call 29; refine (name_any _ _ (by assumption)).mono ?_; rintro e1 w1 ⟨rfl, rfl⟩; first | rw [hG2.out] | rw [hG3.out]) | (go_at_call 30; refine (HC.out _ ((Frm.refl No w).alloc _)).mono ?_; rintro e1 w1 ⟨rfl, rfl⟩))
    go_ret
    exact ⟨rfl, (Frm.refl No w).alloc _⟩
  rw [decide_eq_true hw] at hg
  have hw' : ¬ (64 : Int) < (word.length : Int) := by omega
  cases G4
  rotate_left
  · simp only [Bool.and_false, Bool.false_and, Bool.and_true, Bool.not_true] at hg
    subst hg
    go_enter Try.func11, Try.ntmps11
    go_wp2_with (first | (go_at_call 28; refine (HG.out _).mono ?_; rintro e1 w1 ⟨rfl, rfl⟩) | (go_at_call 29; refine (name_any _ _ (by assumption)).mono ?_; rintro e1 w1 ⟨rfl, rfl⟩; first | rw [hG2.out] | rw [hG3.out]) | (go_at_call 30; refine (HC.out _ ((Frm.refl No w).alloc _)).mono ?_; rintro e1 w1 ⟨rfl, rfl⟩))
    go_ret
    exact ⟨rfl, (Frm.refl No w).alloc _⟩
  exact HL.out hk hk2 rfl rfl rfl ht hw rfl
end Go.Proofs.Ytjhodcdjkokkoaa
