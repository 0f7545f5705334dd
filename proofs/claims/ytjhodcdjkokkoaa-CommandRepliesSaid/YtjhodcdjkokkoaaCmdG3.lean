/- The walk of the reference's Good. -/
import Derived.Test.YtjhodcdjkokkoaaCmdG2
namespace Go.Proofs.Ytjhodcdjkokkoaa
open Go.RowKit

theorem enc_in {n : Int} (h : Cmd.inNum n = true) : (Oct.enc n == []) = false := by
  have := Cmd.enc_num h
  simpa using this
theorem enc_notin {n : Int} (h : Cmd.inNum n = false) : Oct.enc n = [] := by
  have := enc_empty n
  unfold Cmd.inNum at h
  rw [h] at this
  simpa using this
theorem beq_ne {l : List UInt8} (h : l ≠ []) : (l == []) = false := by simpa using h

set_option maxRecDepth 100000 in
set_option maxHeartbeats 8000000 in
theorem rgood_rest (c : Cm) (wv : Value) (w : World) (hsm : Cmd.small c) (hr : Rd w wv c.word.length 1 (strsV c.word)) (k1 : 1 ≤ c.kind) (k2 : c.kind ≤ 18) (g1 : Cmd.gn c.who = true) (g2 : Cmd.gnm c.name = true) (g3 : Cmd.gnm c.other = true) :
    Calls Try.prog 12 #[cmV c wv] w fun e w' => e = .returned (.bool (Cmd.good c)) ∧ Frm No w w' := by
  obtain ⟨s1, s2, s3, s4, s5, s6⟩ := hsm
  have hg := lgood c
  have HP := hid (fun n w => refput_any n w)
  have b0 := fun h => enc_in (n := c.n0) h
  have b1 := fun h => enc_in (n := c.n1) h
  have b2 := fun h => enc_in (n := c.n2) h
  have b3 := fun h => enc_in (n := c.n3) h
  have d0 := fun h => enc_notin (n := c.n0) h
  have d1 := fun h => enc_notin (n := c.n1) h
  have d2 := fun h => enc_notin (n := c.n2) h
  have d3 := fun h => enc_notin (n := c.n3) h
  obtain ⟨ao, cp, rfl⟩ := hr.shape
  unfold cmV
  generalize hV : Cmd.good c = V at hg ⊢
  clear hV
  obtain ⟨k, who, name, other, text, word, n0, n1, n2, n3⟩ := c
  dsimp only at *
  have k1' : ¬ k < 1 := by omega
  have k2' : ¬ 18 < k := by omega
  have e2 : name = [] ∨ ((name == []) = false ∧ Cmd.gn name = true) := by
    rcases Classical.em (name = []) with h | h
    · exact .inl h
    · refine .inr ⟨beq_ne h, ?_⟩
      cases name with
      | nil => exact absurd rfl h
      | cons a b => simpa [Cmd.gnm] using g2
  have e3 : other = [] ∨ ((other == []) = false ∧ Cmd.gn other = true) := by
    rcases Classical.em (other = []) with h | h
    · exact .inl h
    · refine .inr ⟨beq_ne h, ?_⟩
      cases other with
      | nil => exact absurd rfl h
      | cons a b => simpa [Cmd.gnm] using g3
  have gw : Cmd.gn who = true := g1
  simp only [g1, g2, g3, decide_eq_true k1, decide_eq_true k2, Bool.and_true, Bool.true_and] at hg
  clear g2 g3
  generalize Cmd.inNum n0 = B0 at *
  generalize Cmd.inNum n1 = B1 at *
  generalize Cmd.inNum n2 = B2 at *
  generalize Cmd.inNum n3 = B3 at *
  rcases Classical.em (text.length ≤ 65536) with ht | ht
  rotate_left
  · rw [decide_eq_false ht] at hg
    have ht' : (65536 : Int) < (text.length : Int) := by omega
    simp only [Bool.false_and] at hg
    subst hg
    clear b0 b1 b2 b3 d0 d1 d2 d3 hr
    rcases e2 with rfl | ⟨e2, e2'⟩ <;> rcases e3 with rfl | ⟨e3, e3'⟩
    · skip
      skip
      go_enter Try.func12, Try.ntmps12
      go_wp2_with (go_at_call 32; refine (refgood_any _ _ (by assumption)).mono ?_; rintro e1 w1 ⟨rfl, rfl⟩; first | rw [gw] | rw [e2'] | rw [e3'] | skip)
      go_ret
      exact ⟨rfl, (Frm.refl No w).alloc _⟩
    · skip
      skip
      go_enter Try.func12, Try.ntmps12
      go_wp2_with (go_at_call 32; refine (refgood_any _ _ (by assumption)).mono ?_; rintro e1 w1 ⟨rfl, rfl⟩; first | rw [gw] | rw [e2'] | rw [e3'] | skip)
      go_ret
      exact ⟨rfl, (Frm.refl No w).alloc _⟩
    · skip
      skip
      go_enter Try.func12, Try.ntmps12
      go_wp2_with (go_at_call 32; refine (refgood_any _ _ (by assumption)).mono ?_; rintro e1 w1 ⟨rfl, rfl⟩; first | rw [gw] | rw [e2'] | rw [e3'] | skip)
      go_ret
      exact ⟨rfl, (Frm.refl No w).alloc _⟩
    · skip
      skip
      go_enter Try.func12, Try.ntmps12
      go_wp2_with (go_at_call 32; refine (refgood_any _ _ (by assumption)).mono ?_; rintro e1 w1 ⟨rfl, rfl⟩; first | rw [gw] | rw [e2'] | rw [e3'] | skip)
      go_ret
      exact ⟨rfl, (Frm.refl No w).alloc _⟩
  have ht' : ¬ (65536 : Int) < (text.length : Int) := by omega
  rcases Classical.em (word.length ≤ 64) with hw | hw
  rotate_left
  · rw [decide_eq_false hw] at hg
    have hw' : (64 : Int) < (word.length : Int) := by omega
    simp only [Bool.and_false, Bool.false_and] at hg
    subst hg
    clear b0 b1 b2 b3 d0 d1 d2 d3 hr
    rcases e2 with rfl | ⟨e2, e2'⟩ <;> rcases e3 with rfl | ⟨e3, e3'⟩
    · skip
      skip
      go_enter Try.func12, Try.ntmps12
      go_wp2_with (go_at_call 32; refine (refgood_any _ _ (by assumption)).mono ?_; rintro e1 w1 ⟨rfl, rfl⟩; first | rw [gw] | rw [e2'] | rw [e3'] | skip)
      go_ret
      exact ⟨rfl, (Frm.refl No w).alloc _⟩
    · skip
      skip
      go_enter Try.func12, Try.ntmps12
      go_wp2_with (go_at_call 32; refine (refgood_any _ _ (by assumption)).mono ?_; rintro e1 w1 ⟨rfl, rfl⟩; first | rw [gw] | rw [e2'] | rw [e3'] | skip)
      go_ret
      exact ⟨rfl, (Frm.refl No w).alloc _⟩
    · skip
      skip
      go_enter Try.func12, Try.ntmps12
      go_wp2_with (go_at_call 32; refine (refgood_any _ _ (by assumption)).mono ?_; rintro e1 w1 ⟨rfl, rfl⟩; first | rw [gw] | rw [e2'] | rw [e3'] | skip)
      go_ret
      exact ⟨rfl, (Frm.refl No w).alloc _⟩
    · skip
      skip
      go_enter Try.func12, Try.ntmps12
      go_wp2_with (go_at_call 32; refine (refgood_any _ _ (by assumption)).mono ?_; rintro e1 w1 ⟨rfl, rfl⟩; first | rw [gw] | rw [e2'] | rw [e3'] | skip)
      go_ret
      exact ⟨rfl, (Frm.refl No w).alloc _⟩
  have hw' : ¬ (64 : Int) < (word.length : Int) := by omega
  simp only [decide_eq_true ht, decide_eq_true hw, Bool.and_true, Bool.true_and] at hg
  rcases e2 with rfl | ⟨e2, e2'⟩ <;> rcases e3 with rfl | ⟨e3, e3'⟩
  · skip
    skip
    go_enter Try.func12, Try.ntmps12
    go_wp2_with (go_at_call 32; refine (refgood_any _ _ (by assumption)).mono ?_; rintro e1 w1 ⟨rfl, rfl⟩; first | rw [gw] | rw [e2'] | rw [e3'] | skip)
    go_loopw [3] (fun i wr => ∃ j : Nat, j ≤ word.length ∧ i = .int .i64 (j : Int) ∧ (∀ q (hq : q < word.length), q < j → word[q].length ≤ 16) ∧ (w.alloc (.cells #[.int .i64 k, .string ⟨who.toArray⟩, .string ⟨#[]⟩, .string ⟨#[]⟩, .string ⟨text.toArray⟩, .slice ao word.length cp, .int .i64 n0, .int .i64 n1, .int .i64 n2, .int .i64 n3] 29)) = wr) (fun i _ => word.length - (intOf i).toNat)
    case atStart => exact ⟨0, by omega, rfl, fun q _ h => by omega, rfl⟩
    case round =>
      obtain ⟨j, hj, rfl, hall, rfl⟩ := hrel
      by_cases hjl : j < word.length
      · obtain ⟨b', o', rfl, hc⟩ := hr.at_ (by omega)
        have hck := hc j (by omega)
        have hb' : b' < w.heap.size := World.block_lt_of_cell? w _ hck
        have hcell : (w.alloc (.cells #[.int .i64 k, .string ⟨who.toArray⟩, .string ⟨#[]⟩, .string ⟨#[]⟩, .string ⟨text.toArray⟩, .slice (some ⟨b', o', none⟩) word.length cp, .int .i64 n0, .int .i64 n1, .int .i64 n2, .int .i64 n3] 29)).cell? ⟨b', o' + j, none⟩ = some (.string ⟨word[j].toArray⟩) := by
          rw [((Frm.refl No w).alloc _).cell (p := ⟨b', o' + j, none⟩) hb' (fun h => h), hck]; simp [strsV]
        clear hc hck
        have hjz : (j : Int) < (word.length : Int) := by omega
        by_cases h16 : word[j].length ≤ 16
        · have h16' : ¬ (16 : Int) < (word[j].length : Int) := by omega
          have hall' : Hid (∀ q (hq : q < word.length), q < j + 1 → word[q].length ≤ 16) := by
            intro q hq hqj
            by_cases h : q < j
            · exact hall q hq h
            · obtain rfl : q = j := by omega
              omega
          clear hall
          go_wp2_with fail
          exact ⟨⟨j + 1, by omega, by go_num, hall'.out, trivial⟩, by simp [intOf]; omega⟩
        · have h16' : (16 : Int) < (word[j].length : Int) := by omega
          have hv : (word.any fun s => decide (16 < s.length)) = true := by
            rw [List.any_eq_true]
            exact ⟨_, List.getElem_mem hjl, by simpa using h16⟩
          rw [hv] at hg
          simp only [Bool.false_and, Bool.not_true] at hg
          subst hg
          clear hall hv
          go_wp2_with fail
          go_ret
          exact ⟨rfl, (Frm.refl No w).alloc _⟩
      · have hv : (word.any fun s => decide (16 < s.length)) = false := by
          rw [List.any_eq_false]
          intro x hx
          obtain ⟨q, hq, rfl⟩ := List.getElem_of_mem hx
          have := hall q hq (by omega)
          simpa using this
        rw [hv] at hg
        simp only [Bool.true_and, Bool.not_false] at hg
        clear hall hv
        have hjz : ¬ (j : Int) < (word.length : Int) := by omega
        go_wp2_with fail
        go_loopw [4] (fun i wr => ∃ j : Nat, j ≤ 4 ∧ i = .int .i64 (j : Int) ∧ (0 < j → B0 = true) ∧ (1 < j → B1 = true) ∧ (2 < j → B2 = true) ∧ (3 < j → B3 = true) ∧ Frm No (w.alloc (.cells #[.int .i64 k, .string ⟨who.toArray⟩, .string ⟨#[]⟩, .string ⟨#[]⟩, .string ⟨text.toArray⟩, .slice ao word.length cp, .int .i64 n0, .int .i64 n1, .int .i64 n2, .int .i64 n3] 29)) wr) (fun i _ => 4 - (intOf i).toNat)
        case atStart => exact ⟨0, by omega, rfl, fun h => by omega, fun h => by omega, fun h => by omega, fun h => by omega, Frm.refl No _⟩
        case round =>
          obtain ⟨j, hj, rfl, q0, q1, q2, q3, hf⟩ := hrel
          have hf0 := ((Frm.refl No w).alloc _).thenNo hf
          have z0 := hf.box 6
          have z1 := hf.box 7
          have z2 := hf.box 8
          have z3 := hf.box 9
          rcases (by omega : j = 0 ∨ j = 1 ∨ j = 2 ∨ j = 3 ∨ j = 4) with rfl | rfl | rfl | rfl | rfl
          · cases B0
            · simp only [Bool.false_and] at hg
              subst hg
              have hE := d0 rfl
              clear q0 q1 q2 q3 b0 b1 b2 b3 d0 d1 d2 d3
              go_wp2_with (go_at_call 33; refine (HP.out _ _).mono ?_; rintro e1 w1 ⟨rfl, hf1⟩; rw [hE])
              go_ret
              exact ⟨rfl, hf0.thenNo hf1⟩
            · have hE := b0 rfl
              clear b0 b1 b2 b3 d0 d1 d2 d3
              go_wp2_with (go_at_call 33; refine (HP.out _ _).mono ?_; rintro e1 w1 ⟨rfl, hf1⟩)
              exact ⟨⟨1, by omega, by go_num, (by first | exact fun _ => rfl | exact fun _ => trivial), fun h => by omega, fun h => by omega, fun h => by omega, hf.thenNo hf1⟩, by simp [intOf]⟩
          · cases B1
            · simp only [Bool.and_false, Bool.false_and] at hg
              subst hg
              have hE := d1 rfl
              clear q0 q1 q2 q3 b0 b1 b2 b3 d0 d1 d2 d3
              go_wp2_with (go_at_call 33; refine (HP.out _ _).mono ?_; rintro e1 w1 ⟨rfl, hf1⟩; rw [hE])
              go_ret
              exact ⟨rfl, hf0.thenNo hf1⟩
            · have hE := b1 rfl
              clear b0 b1 b2 b3 d0 d1 d2 d3
              go_wp2_with (go_at_call 33; refine (HP.out _ _).mono ?_; rintro e1 w1 ⟨rfl, hf1⟩)
              exact ⟨⟨2, by omega, by go_num, fun _ => q0 (by omega), (by first | exact fun _ => rfl | exact fun _ => trivial), fun h => by omega, fun h => by omega, hf.thenNo hf1⟩, by simp [intOf]⟩
          · cases B2
            · simp only [Bool.and_false, Bool.false_and] at hg
              subst hg
              have hE := d2 rfl
              clear q0 q1 q2 q3 b0 b1 b2 b3 d0 d1 d2 d3
              go_wp2_with (go_at_call 33; refine (HP.out _ _).mono ?_; rintro e1 w1 ⟨rfl, hf1⟩; rw [hE])
              go_ret
              exact ⟨rfl, hf0.thenNo hf1⟩
            · have hE := b2 rfl
              clear b0 b1 b2 b3 d0 d1 d2 d3
              go_wp2_with (go_at_call 33; refine (HP.out _ _).mono ?_; rintro e1 w1 ⟨rfl, hf1⟩)
              exact ⟨⟨3, by omega, by go_num, fun _ => q0 (by omega), fun _ => q1 (by omega), (by first | exact fun _ => rfl | exact fun _ => trivial), fun h => by omega, hf.thenNo hf1⟩, by simp [intOf]⟩
          · cases B3
            · simp only [Bool.and_false] at hg
              subst hg
              have hE := d3 rfl
              clear q0 q1 q2 q3 b0 b1 b2 b3 d0 d1 d2 d3
              go_wp2_with (go_at_call 33; refine (HP.out _ _).mono ?_; rintro e1 w1 ⟨rfl, hf1⟩; rw [hE])
              go_ret
              exact ⟨rfl, hf0.thenNo hf1⟩
            · have hE := b3 rfl
              clear b0 b1 b2 b3 d0 d1 d2 d3
              go_wp2_with (go_at_call 33; refine (HP.out _ _).mono ?_; rintro e1 w1 ⟨rfl, hf1⟩)
              exact ⟨⟨4, by omega, by go_num, fun _ => q0 (by omega), fun _ => q1 (by omega), fun _ => q2 (by omega), (by first | exact fun _ => rfl | exact fun _ => trivial), hf.thenNo hf1⟩, by simp [intOf]⟩
          · rw [q0 (by omega), q1 (by omega), q2 (by omega), q3 (by omega)] at hg
            clear q0 q1 q2 q3 b0 b1 b2 b3 d0 d1 d2 d3
            subst hg
            go_wp2_with fail
            go_ret
            exact ⟨rfl, hf0⟩
  · skip
    skip
    go_enter Try.func12, Try.ntmps12
    go_wp2_with (go_at_call 32; refine (refgood_any _ _ (by assumption)).mono ?_; rintro e1 w1 ⟨rfl, rfl⟩; first | rw [gw] | rw [e2'] | rw [e3'] | skip)
    go_loopw [3] (fun i wr => ∃ j : Nat, j ≤ word.length ∧ i = .int .i64 (j : Int) ∧ (∀ q (hq : q < word.length), q < j → word[q].length ≤ 16) ∧ (w.alloc (.cells #[.int .i64 k, .string ⟨who.toArray⟩, .string ⟨#[]⟩, .string ⟨other.toArray⟩, .string ⟨text.toArray⟩, .slice ao word.length cp, .int .i64 n0, .int .i64 n1, .int .i64 n2, .int .i64 n3] 29)) = wr) (fun i _ => word.length - (intOf i).toNat)
    case atStart => exact ⟨0, by omega, rfl, fun q _ h => by omega, rfl⟩
    case round =>
      obtain ⟨j, hj, rfl, hall, rfl⟩ := hrel
      by_cases hjl : j < word.length
      · obtain ⟨b', o', rfl, hc⟩ := hr.at_ (by omega)
        have hck := hc j (by omega)
        have hb' : b' < w.heap.size := World.block_lt_of_cell? w _ hck
        have hcell : (w.alloc (.cells #[.int .i64 k, .string ⟨who.toArray⟩, .string ⟨#[]⟩, .string ⟨other.toArray⟩, .string ⟨text.toArray⟩, .slice (some ⟨b', o', none⟩) word.length cp, .int .i64 n0, .int .i64 n1, .int .i64 n2, .int .i64 n3] 29)).cell? ⟨b', o' + j, none⟩ = some (.string ⟨word[j].toArray⟩) := by
          rw [((Frm.refl No w).alloc _).cell (p := ⟨b', o' + j, none⟩) hb' (fun h => h), hck]; simp [strsV]
        clear hc hck
        have hjz : (j : Int) < (word.length : Int) := by omega
        by_cases h16 : word[j].length ≤ 16
        · have h16' : ¬ (16 : Int) < (word[j].length : Int) := by omega
          have hall' : Hid (∀ q (hq : q < word.length), q < j + 1 → word[q].length ≤ 16) := by
            intro q hq hqj
            by_cases h : q < j
            · exact hall q hq h
            · obtain rfl : q = j := by omega
              omega
          clear hall
          go_wp2_with fail
          exact ⟨⟨j + 1, by omega, by go_num, hall'.out, trivial⟩, by simp [intOf]; omega⟩
        · have h16' : (16 : Int) < (word[j].length : Int) := by omega
          have hv : (word.any fun s => decide (16 < s.length)) = true := by
            rw [List.any_eq_true]
            exact ⟨_, List.getElem_mem hjl, by simpa using h16⟩
          rw [hv] at hg
          simp only [Bool.false_and, Bool.not_true] at hg
          subst hg
          clear hall hv
          go_wp2_with fail
          go_ret
          exact ⟨rfl, (Frm.refl No w).alloc _⟩
      · have hv : (word.any fun s => decide (16 < s.length)) = false := by
          rw [List.any_eq_false]
          intro x hx
          obtain ⟨q, hq, rfl⟩ := List.getElem_of_mem hx
          have := hall q hq (by omega)
          simpa using this
        rw [hv] at hg
        simp only [Bool.true_and, Bool.not_false] at hg
        clear hall hv
        have hjz : ¬ (j : Int) < (word.length : Int) := by omega
        go_wp2_with fail
        go_loopw [4] (fun i wr => ∃ j : Nat, j ≤ 4 ∧ i = .int .i64 (j : Int) ∧ (0 < j → B0 = true) ∧ (1 < j → B1 = true) ∧ (2 < j → B2 = true) ∧ (3 < j → B3 = true) ∧ Frm No (w.alloc (.cells #[.int .i64 k, .string ⟨who.toArray⟩, .string ⟨#[]⟩, .string ⟨other.toArray⟩, .string ⟨text.toArray⟩, .slice ao word.length cp, .int .i64 n0, .int .i64 n1, .int .i64 n2, .int .i64 n3] 29)) wr) (fun i _ => 4 - (intOf i).toNat)
        case atStart => exact ⟨0, by omega, rfl, fun h => by omega, fun h => by omega, fun h => by omega, fun h => by omega, Frm.refl No _⟩
        case round =>
          obtain ⟨j, hj, rfl, q0, q1, q2, q3, hf⟩ := hrel
          have hf0 := ((Frm.refl No w).alloc _).thenNo hf
          have z0 := hf.box 6
          have z1 := hf.box 7
          have z2 := hf.box 8
          have z3 := hf.box 9
          rcases (by omega : j = 0 ∨ j = 1 ∨ j = 2 ∨ j = 3 ∨ j = 4) with rfl | rfl | rfl | rfl | rfl
          · cases B0
            · simp only [Bool.false_and] at hg
              subst hg
              have hE := d0 rfl
              clear q0 q1 q2 q3 b0 b1 b2 b3 d0 d1 d2 d3
              go_wp2_with (go_at_call 33; refine (HP.out _ _).mono ?_; rintro e1 w1 ⟨rfl, hf1⟩; rw [hE])
              go_ret
              exact ⟨rfl, hf0.thenNo hf1⟩
            · have hE := b0 rfl
              clear b0 b1 b2 b3 d0 d1 d2 d3
              go_wp2_with (go_at_call 33; refine (HP.out _ _).mono ?_; rintro e1 w1 ⟨rfl, hf1⟩)
              exact ⟨⟨1, by omega, by go_num, (by first | exact fun _ => rfl | exact fun _ => trivial), fun h => by omega, fun h => by omega, fun h => by omega, hf.thenNo hf1⟩, by simp [intOf]⟩
          · cases B1
            · simp only [Bool.and_false, Bool.false_and] at hg
              subst hg
              have hE := d1 rfl
              clear q0 q1 q2 q3 b0 b1 b2 b3 d0 d1 d2 d3
              go_wp2_with (go_at_call 33; refine (HP.out _ _).mono ?_; rintro e1 w1 ⟨rfl, hf1⟩; rw [hE])
              go_ret
              exact ⟨rfl, hf0.thenNo hf1⟩
            · have hE := b1 rfl
              clear b0 b1 b2 b3 d0 d1 d2 d3
              go_wp2_with (go_at_call 33; refine (HP.out _ _).mono ?_; rintro e1 w1 ⟨rfl, hf1⟩)
              exact ⟨⟨2, by omega, by go_num, fun _ => q0 (by omega), (by first | exact fun _ => rfl | exact fun _ => trivial), fun h => by omega, fun h => by omega, hf.thenNo hf1⟩, by simp [intOf]⟩
          · cases B2
            · simp only [Bool.and_false, Bool.false_and] at hg
              subst hg
              have hE := d2 rfl
              clear q0 q1 q2 q3 b0 b1 b2 b3 d0 d1 d2 d3
              go_wp2_with (go_at_call 33; refine (HP.out _ _).mono ?_; rintro e1 w1 ⟨rfl, hf1⟩; rw [hE])
              go_ret
              exact ⟨rfl, hf0.thenNo hf1⟩
            · have hE := b2 rfl
              clear b0 b1 b2 b3 d0 d1 d2 d3
              go_wp2_with (go_at_call 33; refine (HP.out _ _).mono ?_; rintro e1 w1 ⟨rfl, hf1⟩)
              exact ⟨⟨3, by omega, by go_num, fun _ => q0 (by omega), fun _ => q1 (by omega), (by first | exact fun _ => rfl | exact fun _ => trivial), fun h => by omega, hf.thenNo hf1⟩, by simp [intOf]⟩
          · cases B3
            · simp only [Bool.and_false] at hg
              subst hg
              have hE := d3 rfl
              clear q0 q1 q2 q3 b0 b1 b2 b3 d0 d1 d2 d3
              go_wp2_with (go_at_call 33; refine (HP.out _ _).mono ?_; rintro e1 w1 ⟨rfl, hf1⟩; rw [hE])
              go_ret
              exact ⟨rfl, hf0.thenNo hf1⟩
            · have hE := b3 rfl
              clear b0 b1 b2 b3 d0 d1 d2 d3
              go_wp2_with (go_at_call 33; refine (HP.out _ _).mono ?_; rintro e1 w1 ⟨rfl, hf1⟩)
              exact ⟨⟨4, by omega, by go_num, fun _ => q0 (by omega), fun _ => q1 (by omega), fun _ => q2 (by omega), (by first | exact fun _ => rfl | exact fun _ => trivial), hf.thenNo hf1⟩, by simp [intOf]⟩
          · rw [q0 (by omega), q1 (by omega), q2 (by omega), q3 (by omega)] at hg
            clear q0 q1 q2 q3 b0 b1 b2 b3 d0 d1 d2 d3
            subst hg
            go_wp2_with fail
            go_ret
            exact ⟨rfl, hf0⟩
  · skip
    skip
    go_enter Try.func12, Try.ntmps12
    go_wp2_with (go_at_call 32; refine (refgood_any _ _ (by assumption)).mono ?_; rintro e1 w1 ⟨rfl, rfl⟩; first | rw [gw] | rw [e2'] | rw [e3'] | skip)
    go_loopw [3] (fun i wr => ∃ j : Nat, j ≤ word.length ∧ i = .int .i64 (j : Int) ∧ (∀ q (hq : q < word.length), q < j → word[q].length ≤ 16) ∧ (w.alloc (.cells #[.int .i64 k, .string ⟨who.toArray⟩, .string ⟨name.toArray⟩, .string ⟨#[]⟩, .string ⟨text.toArray⟩, .slice ao word.length cp, .int .i64 n0, .int .i64 n1, .int .i64 n2, .int .i64 n3] 29)) = wr) (fun i _ => word.length - (intOf i).toNat)
    case atStart => exact ⟨0, by omega, rfl, fun q _ h => by omega, rfl⟩
    case round =>
      obtain ⟨j, hj, rfl, hall, rfl⟩ := hrel
      by_cases hjl : j < word.length
      · obtain ⟨b', o', rfl, hc⟩ := hr.at_ (by omega)
        have hck := hc j (by omega)
        have hb' : b' < w.heap.size := World.block_lt_of_cell? w _ hck
        have hcell : (w.alloc (.cells #[.int .i64 k, .string ⟨who.toArray⟩, .string ⟨name.toArray⟩, .string ⟨#[]⟩, .string ⟨text.toArray⟩, .slice (some ⟨b', o', none⟩) word.length cp, .int .i64 n0, .int .i64 n1, .int .i64 n2, .int .i64 n3] 29)).cell? ⟨b', o' + j, none⟩ = some (.string ⟨word[j].toArray⟩) := by
          rw [((Frm.refl No w).alloc _).cell (p := ⟨b', o' + j, none⟩) hb' (fun h => h), hck]; simp [strsV]
        clear hc hck
        have hjz : (j : Int) < (word.length : Int) := by omega
        by_cases h16 : word[j].length ≤ 16
        · have h16' : ¬ (16 : Int) < (word[j].length : Int) := by omega
          have hall' : Hid (∀ q (hq : q < word.length), q < j + 1 → word[q].length ≤ 16) := by
            intro q hq hqj
            by_cases h : q < j
            · exact hall q hq h
            · obtain rfl : q = j := by omega
              omega
          clear hall
          go_wp2_with fail
          exact ⟨⟨j + 1, by omega, by go_num, hall'.out, trivial⟩, by simp [intOf]; omega⟩
        · have h16' : (16 : Int) < (word[j].length : Int) := by omega
          have hv : (word.any fun s => decide (16 < s.length)) = true := by
            rw [List.any_eq_true]
            exact ⟨_, List.getElem_mem hjl, by simpa using h16⟩
          rw [hv] at hg
          simp only [Bool.false_and, Bool.not_true] at hg
          subst hg
          clear hall hv
          go_wp2_with fail
          go_ret
          exact ⟨rfl, (Frm.refl No w).alloc _⟩
      · have hv : (word.any fun s => decide (16 < s.length)) = false := by
          rw [List.any_eq_false]
          intro x hx
          obtain ⟨q, hq, rfl⟩ := List.getElem_of_mem hx
          have := hall q hq (by omega)
          simpa using this
        rw [hv] at hg
        simp only [Bool.true_and, Bool.not_false] at hg
        clear hall hv
        have hjz : ¬ (j : Int) < (word.length : Int) := by omega
        go_wp2_with fail
        go_loopw [4] (fun i wr => ∃ j : Nat, j ≤ 4 ∧ i = .int .i64 (j : Int) ∧ (0 < j → B0 = true) ∧ (1 < j → B1 = true) ∧ (2 < j → B2 = true) ∧ (3 < j → B3 = true) ∧ Frm No (w.alloc (.cells #[.int .i64 k, .string ⟨who.toArray⟩, .string ⟨name.toArray⟩, .string ⟨#[]⟩, .string ⟨text.toArray⟩, .slice ao word.length cp, .int .i64 n0, .int .i64 n1, .int .i64 n2, .int .i64 n3] 29)) wr) (fun i _ => 4 - (intOf i).toNat)
        case atStart => exact ⟨0, by omega, rfl, fun h => by omega, fun h => by omega, fun h => by omega, fun h => by omega, Frm.refl No _⟩
        case round =>
          obtain ⟨j, hj, rfl, q0, q1, q2, q3, hf⟩ := hrel
          have hf0 := ((Frm.refl No w).alloc _).thenNo hf
          have z0 := hf.box 6
          have z1 := hf.box 7
          have z2 := hf.box 8
          have z3 := hf.box 9
          rcases (by omega : j = 0 ∨ j = 1 ∨ j = 2 ∨ j = 3 ∨ j = 4) with rfl | rfl | rfl | rfl | rfl
          · cases B0
            · simp only [Bool.false_and] at hg
              subst hg
              have hE := d0 rfl
              clear q0 q1 q2 q3 b0 b1 b2 b3 d0 d1 d2 d3
              go_wp2_with (go_at_call 33; refine (HP.out _ _).mono ?_; rintro e1 w1 ⟨rfl, hf1⟩; rw [hE])
              go_ret
              exact ⟨rfl, hf0.thenNo hf1⟩
            · have hE := b0 rfl
              clear b0 b1 b2 b3 d0 d1 d2 d3
              go_wp2_with (go_at_call 33; refine (HP.out _ _).mono ?_; rintro e1 w1 ⟨rfl, hf1⟩)
              exact ⟨⟨1, by omega, by go_num, (by first | exact fun _ => rfl | exact fun _ => trivial), fun h => by omega, fun h => by omega, fun h => by omega, hf.thenNo hf1⟩, by simp [intOf]⟩
          · cases B1
            · simp only [Bool.and_false, Bool.false_and] at hg
              subst hg
              have hE := d1 rfl
              clear q0 q1 q2 q3 b0 b1 b2 b3 d0 d1 d2 d3
              go_wp2_with (go_at_call 33; refine (HP.out _ _).mono ?_; rintro e1 w1 ⟨rfl, hf1⟩; rw [hE])
              go_ret
              exact ⟨rfl, hf0.thenNo hf1⟩
            · have hE := b1 rfl
              clear b0 b1 b2 b3 d0 d1 d2 d3
              go_wp2_with (go_at_call 33; refine (HP.out _ _).mono ?_; rintro e1 w1 ⟨rfl, hf1⟩)
              exact ⟨⟨2, by omega, by go_num, fun _ => q0 (by omega), (by first | exact fun _ => rfl | exact fun _ => trivial), fun h => by omega, fun h => by omega, hf.thenNo hf1⟩, by simp [intOf]⟩
          · cases B2
            · simp only [Bool.and_false, Bool.false_and] at hg
              subst hg
              have hE := d2 rfl
              clear q0 q1 q2 q3 b0 b1 b2 b3 d0 d1 d2 d3
              go_wp2_with (go_at_call 33; refine (HP.out _ _).mono ?_; rintro e1 w1 ⟨rfl, hf1⟩; rw [hE])
              go_ret
              exact ⟨rfl, hf0.thenNo hf1⟩
            · have hE := b2 rfl
              clear b0 b1 b2 b3 d0 d1 d2 d3
              go_wp2_with (go_at_call 33; refine (HP.out _ _).mono ?_; rintro e1 w1 ⟨rfl, hf1⟩)
              exact ⟨⟨3, by omega, by go_num, fun _ => q0 (by omega), fun _ => q1 (by omega), (by first | exact fun _ => rfl | exact fun _ => trivial), fun h => by omega, hf.thenNo hf1⟩, by simp [intOf]⟩
          · cases B3
            · simp only [Bool.and_false] at hg
              subst hg
              have hE := d3 rfl
              clear q0 q1 q2 q3 b0 b1 b2 b3 d0 d1 d2 d3
              go_wp2_with (go_at_call 33; refine (HP.out _ _).mono ?_; rintro e1 w1 ⟨rfl, hf1⟩; rw [hE])
              go_ret
              exact ⟨rfl, hf0.thenNo hf1⟩
            · have hE := b3 rfl
              clear b0 b1 b2 b3 d0 d1 d2 d3
              go_wp2_with (go_at_call 33; refine (HP.out _ _).mono ?_; rintro e1 w1 ⟨rfl, hf1⟩)
              exact ⟨⟨4, by omega, by go_num, fun _ => q0 (by omega), fun _ => q1 (by omega), fun _ => q2 (by omega), (by first | exact fun _ => rfl | exact fun _ => trivial), hf.thenNo hf1⟩, by simp [intOf]⟩
          · rw [q0 (by omega), q1 (by omega), q2 (by omega), q3 (by omega)] at hg
            clear q0 q1 q2 q3 b0 b1 b2 b3 d0 d1 d2 d3
            subst hg
            go_wp2_with fail
            go_ret
            exact ⟨rfl, hf0⟩
  · skip
    skip
    go_enter Try.func12, Try.ntmps12
    go_wp2_with (go_at_call 32; refine (refgood_any _ _ (by assumption)).mono ?_; rintro e1 w1 ⟨rfl, rfl⟩; first | rw [gw] | rw [e2'] | rw [e3'] | skip)
    go_loopw [3] (fun i wr => ∃ j : Nat, j ≤ word.length ∧ i = .int .i64 (j : Int) ∧ (∀ q (hq : q < word.length), q < j → word[q].length ≤ 16) ∧ (w.alloc (.cells #[.int .i64 k, .string ⟨who.toArray⟩, .string ⟨name.toArray⟩, .string ⟨other.toArray⟩, .string ⟨text.toArray⟩, .slice ao word.length cp, .int .i64 n0, .int .i64 n1, .int .i64 n2, .int .i64 n3] 29)) = wr) (fun i _ => word.length - (intOf i).toNat)
    case atStart => exact ⟨0, by omega, rfl, fun q _ h => by omega, rfl⟩
    case round =>
      obtain ⟨j, hj, rfl, hall, rfl⟩ := hrel
      by_cases hjl : j < word.length
      · obtain ⟨b', o', rfl, hc⟩ := hr.at_ (by omega)
        have hck := hc j (by omega)
        have hb' : b' < w.heap.size := World.block_lt_of_cell? w _ hck
        have hcell : (w.alloc (.cells #[.int .i64 k, .string ⟨who.toArray⟩, .string ⟨name.toArray⟩, .string ⟨other.toArray⟩, .string ⟨text.toArray⟩, .slice (some ⟨b', o', none⟩) word.length cp, .int .i64 n0, .int .i64 n1, .int .i64 n2, .int .i64 n3] 29)).cell? ⟨b', o' + j, none⟩ = some (.string ⟨word[j].toArray⟩) := by
          rw [((Frm.refl No w).alloc _).cell (p := ⟨b', o' + j, none⟩) hb' (fun h => h), hck]; simp [strsV]
        clear hc hck
        have hjz : (j : Int) < (word.length : Int) := by omega
        by_cases h16 : word[j].length ≤ 16
        · have h16' : ¬ (16 : Int) < (word[j].length : Int) := by omega
          have hall' : Hid (∀ q (hq : q < word.length), q < j + 1 → word[q].length ≤ 16) := by
            intro q hq hqj
            by_cases h : q < j
            · exact hall q hq h
            · obtain rfl : q = j := by omega
              omega
          clear hall
          go_wp2_with fail
          exact ⟨⟨j + 1, by omega, by go_num, hall'.out, trivial⟩, by simp [intOf]; omega⟩
        · have h16' : (16 : Int) < (word[j].length : Int) := by omega
          have hv : (word.any fun s => decide (16 < s.length)) = true := by
            rw [List.any_eq_true]
            exact ⟨_, List.getElem_mem hjl, by simpa using h16⟩
          rw [hv] at hg
          simp only [Bool.false_and, Bool.not_true] at hg
          subst hg
          clear hall hv
          go_wp2_with fail
          go_ret
          exact ⟨rfl, (Frm.refl No w).alloc _⟩
      · have hv : (word.any fun s => decide (16 < s.length)) = false := by
          rw [List.any_eq_false]
          intro x hx
          obtain ⟨q, hq, rfl⟩ := List.getElem_of_mem hx
          have := hall q hq (by omega)
          simpa using this
        rw [hv] at hg
        simp only [Bool.true_and, Bool.not_false] at hg
        clear hall hv
        have hjz : ¬ (j : Int) < (word.length : Int) := by omega
        go_wp2_with fail
        go_loopw [4] (fun i wr => ∃ j : Nat, j ≤ 4 ∧ i = .int .i64 (j : Int) ∧ (0 < j → B0 = true) ∧ (1 < j → B1 = true) ∧ (2 < j → B2 = true) ∧ (3 < j → B3 = true) ∧ Frm No (w.alloc (.cells #[.int .i64 k, .string ⟨who.toArray⟩, .string ⟨name.toArray⟩, .string ⟨other.toArray⟩, .string ⟨text.toArray⟩, .slice ao word.length cp, .int .i64 n0, .int .i64 n1, .int .i64 n2, .int .i64 n3] 29)) wr) (fun i _ => 4 - (intOf i).toNat)
        case atStart => exact ⟨0, by omega, rfl, fun h => by omega, fun h => by omega, fun h => by omega, fun h => by omega, Frm.refl No _⟩
        case round =>
          obtain ⟨j, hj, rfl, q0, q1, q2, q3, hf⟩ := hrel
          have hf0 := ((Frm.refl No w).alloc _).thenNo hf
          have z0 := hf.box 6
          have z1 := hf.box 7
          have z2 := hf.box 8
          have z3 := hf.box 9
          rcases (by omega : j = 0 ∨ j = 1 ∨ j = 2 ∨ j = 3 ∨ j = 4) with rfl | rfl | rfl | rfl | rfl
          · cases B0
            · simp only [Bool.false_and] at hg
              subst hg
              have hE := d0 rfl
              clear q0 q1 q2 q3 b0 b1 b2 b3 d0 d1 d2 d3
              go_wp2_with (go_at_call 33; refine (HP.out _ _).mono ?_; rintro e1 w1 ⟨rfl, hf1⟩; rw [hE])
              go_ret
              exact ⟨rfl, hf0.thenNo hf1⟩
            · have hE := b0 rfl
              clear b0 b1 b2 b3 d0 d1 d2 d3
              go_wp2_with (go_at_call 33; refine (HP.out _ _).mono ?_; rintro e1 w1 ⟨rfl, hf1⟩)
              exact ⟨⟨1, by omega, by go_num, (by first | exact fun _ => rfl | exact fun _ => trivial), fun h => by omega, fun h => by omega, fun h => by omega, hf.thenNo hf1⟩, by simp [intOf]⟩
          · cases B1
            · simp only [Bool.and_false, Bool.false_and] at hg
              subst hg
              have hE := d1 rfl
              clear q0 q1 q2 q3 b0 b1 b2 b3 d0 d1 d2 d3
              go_wp2_with (go_at_call 33; refine (HP.out _ _).mono ?_; rintro e1 w1 ⟨rfl, hf1⟩; rw [hE])
              go_ret
              exact ⟨rfl, hf0.thenNo hf1⟩
            · have hE := b1 rfl
              clear b0 b1 b2 b3 d0 d1 d2 d3
              go_wp2_with (go_at_call 33; refine (HP.out _ _).mono ?_; rintro e1 w1 ⟨rfl, hf1⟩)
              exact ⟨⟨2, by omega, by go_num, fun _ => q0 (by omega), (by first | exact fun _ => rfl | exact fun _ => trivial), fun h => by omega, fun h => by omega, hf.thenNo hf1⟩, by simp [intOf]⟩
          · cases B2
            · simp only [Bool.and_false, Bool.false_and] at hg
              subst hg
              have hE := d2 rfl
              clear q0 q1 q2 q3 b0 b1 b2 b3 d0 d1 d2 d3
              go_wp2_with (go_at_call 33; refine (HP.out _ _).mono ?_; rintro e1 w1 ⟨rfl, hf1⟩; rw [hE])
              go_ret
              exact ⟨rfl, hf0.thenNo hf1⟩
            · have hE := b2 rfl
              clear b0 b1 b2 b3 d0 d1 d2 d3
              go_wp2_with (go_at_call 33; refine (HP.out _ _).mono ?_; rintro e1 w1 ⟨rfl, hf1⟩)
              exact ⟨⟨3, by omega, by go_num, fun _ => q0 (by omega), fun _ => q1 (by omega), (by first | exact fun _ => rfl | exact fun _ => trivial), fun h => by omega, hf.thenNo hf1⟩, by simp [intOf]⟩
          · cases B3
            · simp only [Bool.and_false] at hg
              subst hg
              have hE := d3 rfl
              clear q0 q1 q2 q3 b0 b1 b2 b3 d0 d1 d2 d3
              go_wp2_with (go_at_call 33; refine (HP.out _ _).mono ?_; rintro e1 w1 ⟨rfl, hf1⟩; rw [hE])
              go_ret
              exact ⟨rfl, hf0.thenNo hf1⟩
            · have hE := b3 rfl
              clear b0 b1 b2 b3 d0 d1 d2 d3
              go_wp2_with (go_at_call 33; refine (HP.out _ _).mono ?_; rintro e1 w1 ⟨rfl, hf1⟩)
              exact ⟨⟨4, by omega, by go_num, fun _ => q0 (by omega), fun _ => q1 (by omega), fun _ => q2 (by omega), (by first | exact fun _ => rfl | exact fun _ => trivial), hf.thenNo hf1⟩, by simp [intOf]⟩
          · rw [q0 (by omega), q1 (by omega), q2 (by omega), q3 (by omega)] at hg
            clear q0 q1 q2 q3 b0 b1 b2 b3 d0 d1 d2 d3
            subst hg
            go_wp2_with fail
            go_ret
            exact ⟨rfl, hf0⟩

set_option maxRecDepth 100000 in
set_option maxHeartbeats 8000000 in
theorem rgood_any (c : Cm) (wv : Value) (w : World) (hsm : Cmd.small c) (hr : Rd w wv c.word.length 1 (strsV c.word)) :
    Calls Try.prog 12 #[cmV c wv] w fun e w' => e = .returned (.bool (Cmd.good c)) ∧ Frm No w w' := by
  have HL := hid (fun k1 k2 g1 g2 g3 => rgood_rest c wv w hsm hr k1 k2 g1 g2 g3)
  obtain ⟨s1, s2, s3, s4, s5, s6⟩ := hsm
  have hg := lgood c
  obtain ⟨ao, cp, rfl⟩ := hr.shape
  unfold cmV at HL ⊢
  generalize hV : Cmd.good c = V at hg HL ⊢
  clear hV
  obtain ⟨k, who, name, other, text, word, n0, n1, n2, n3⟩ := c
  dsimp only at *
  rcases Classical.em (1 ≤ k) with hk | hk
  rotate_left
  · rw [decide_eq_false hk] at hg
    have hk' : k < 1 := by omega
    simp only [Bool.false_and] at hg
    subst hg
    clear HL
    go_enter Try.func12, Try.ntmps12
    go_wp2_with (go_at_call 32; refine (refgood_any _ _ (by assumption)).mono ?_; rintro e1 w1 ⟨rfl, rfl⟩; first | rw [gw] | rw [e2'] | rw [e3'] | skip)
    go_ret
    exact ⟨rfl, (Frm.refl No w).alloc _⟩
  rw [decide_eq_true hk] at hg
  have hk' : ¬ k < 1 := by omega
  rcases Classical.em (k ≤ 18) with hk2 | hk2
  rotate_left
  · rw [decide_eq_false hk2] at hg
    have hk2' : 18 < k := by omega
    simp only [Bool.and_false, Bool.false_and] at hg
    subst hg
    clear HL
    go_enter Try.func12, Try.ntmps12
    go_wp2_with (go_at_call 32; refine (refgood_any _ _ (by assumption)).mono ?_; rintro e1 w1 ⟨rfl, rfl⟩; first | rw [gw] | rw [e2'] | rw [e3'] | skip)
    go_ret
    exact ⟨rfl, (Frm.refl No w).alloc _⟩
  rw [decide_eq_true hk2] at hg
  have hk2' : ¬ 18 < k := by omega
  cases hg1 : Cmd.gn who
  · rw [hg1] at hg
    have gw := hg1
    simp only [Bool.and_false, Bool.false_and, Bool.and_true] at hg
    subst hg
    clear HL
    go_enter Try.func12, Try.ntmps12
    go_wp2_with (go_at_call 32; refine (refgood_any _ _ (by assumption)).mono ?_; rintro e1 w1 ⟨rfl, rfl⟩; first | rw [gw] | rw [e2'] | rw [e3'] | skip)
    go_ret
    exact ⟨rfl, (Frm.refl No w).alloc _⟩
  rw [hg1] at hg
  have gw := hg1
  cases hg2 : Cmd.gnm name
  · rw [hg2] at hg
    simp only [Bool.and_false, Bool.false_and, Bool.and_true] at hg
    subst hg
    clear HL
    have hnn : (name == []) = false := by
      cases name with
      | nil => simp [Cmd.gnm] at hg2
      | cons a b => rfl
    have hnf : Cmd.gn name = false := by
      simp only [Cmd.gnm, Bool.or_eq_false_iff] at hg2
      exact hg2.2
    have e2' := hnf
    go_enter Try.func12, Try.ntmps12
    go_wp2_with (go_at_call 32; refine (refgood_any _ _ (by assumption)).mono ?_; rintro e1 w1 ⟨rfl, rfl⟩; first | rw [gw] | rw [e2'] | rw [e3'] | skip)
    go_ret
    exact ⟨rfl, (Frm.refl No w).alloc _⟩
  rw [hg2] at hg
  cases hg3 : Cmd.gnm other
  · rw [hg3] at hg
    simp only [Bool.and_false, Bool.false_and, Bool.and_true] at hg
    subst hg
    clear HL
    have hnn : (other == []) = false := by
      cases other with
      | nil => simp [Cmd.gnm] at hg3
      | cons a b => rfl
    have hnf : Cmd.gn other = false := by
      simp only [Cmd.gnm, Bool.or_eq_false_iff] at hg3
      exact hg3.2
    have e3' := hnf
    rcases Classical.em (name = []) with rfl | hn1
    · skip
      go_enter Try.func12, Try.ntmps12
      go_wp2_with (go_at_call 32; refine (refgood_any _ _ (by assumption)).mono ?_; rintro e1 w1 ⟨rfl, rfl⟩; first | rw [gw] | rw [e2'] | rw [e3'] | skip)
      go_ret
      exact ⟨rfl, (Frm.refl No w).alloc _⟩
    · have hn1' := beq_ne hn1
      have hn2 : Cmd.gn name = true := by
        cases name with
        | nil => exact absurd rfl hn1
        | cons a b => simpa [Cmd.gnm] using hg2
      have e2' := hn2
      go_enter Try.func12, Try.ntmps12
      go_wp2_with (go_at_call 32; refine (refgood_any _ _ (by assumption)).mono ?_; rintro e1 w1 ⟨rfl, rfl⟩; first | rw [gw] | rw [e2'] | rw [e3'] | skip)
      go_ret
      exact ⟨rfl, (Frm.refl No w).alloc _⟩
  exact HL.out hk hk2 hg1 hg2 hg3
end Go.Proofs.Ytjhodcdjkokkoaa
