/- The walk of the reference's Put. -/
import Derived.Test.YtekailaoanpcgaaOct1
namespace Go.Proofs.Ytekailaoanpcgaa
open Go.RowKit

set_option maxRecDepth 100000 in
set_option maxHeartbeats 400000 in
theorem refput_pos (m : Nat) (w : World) (h1 : 0 ≤ m) (h2 : m ≤ 9007199254740992) :
    Calls Try.prog 90 #[.int .i64 (m : Int)] w fun e w' => e = .returned (.string ⟨(Oct.enc (m : Int)).toArray⟩) ∧ Frm No w w' := by
  have hc1 := fun (W : World) (x : Int) => conv_one (P := Try.prog) W Try.underlying33 Try.underlying5 Try.underlying9 x
  have hk2 := Oct.klen_le m (by omega)
  have HMIN := hid (fun j => Oct.klen_min m j (by omega))
  have HLT := hid (Oct.lt_klen m (by omega))
  have henc := Oct.enc_in (n := (m : Int)) (by omega) (by omega)
  rw [show (m : Int).natAbs = m from by omega] at henc
  rw [decide_eq_false (by omega)] at henc
  have HENC := hid henc
  clear henc
  go_enter Try.func90, Try.ntmps90
  go_wp2_with fail
  go_loopw [0, 4] (fun n s wr => ∃ j : Nat, j ≤ Oct.klen m ∧ n = .int .i64 ((m / 256 ^ j : Nat) : Int) ∧ s = .string ⟨(Oct.be j m).toArray⟩ ∧ Frm No w wr)
    (fun n _ _ => (intOf n).toNat)
  case atStart => exact ⟨0, by omega, by simp, by simp [Oct.be], Frm.refl _ _⟩
  case round =>
    obtain ⟨j, hj, rfl, rfl, hf⟩ := hrel
    obtain ⟨q, hq⟩ : ∃ q : Nat, m / 256 ^ j = q := ⟨_, rfl⟩
    rw [hq]
    have HQ := hid hq
    clear hq
    by_cases h0 : q = 0
    · subst h0
      go_wp2_with fail
      go_ret
      have hjk : j = Oct.klen m := by
        have h3 := HQ.out
        have h4 : m < 256 ^ j := by
          rcases Nat.lt_or_ge m (256 ^ j) with h | h
          · exact h
          · have := (Nat.le_div_iff_mul_le (k := 256 ^ j) (x := 1) (y := m) (Nat.pow_pos (by omega))).2 (by omega)
            omega
        have := HMIN.out j h4
        omega
      rw [HENC.out, ← hjk]
      refine ⟨congrArg (fun s : ByteArray => Ending.returned (Value.string s)) ?_, hf.alloc _⟩
      refine (str_append_byte _ _).trans ?_
      refine congrArg (fun c : UInt8 => (⟨(c :: Oct.be j m).toArray⟩ : ByteArray)) ?_
      first | rfl | (apply UInt8.toNat_inj.1; rw [Oct.hdr_toNat _ _ (by omega)]; simp; omega)
    · have hqm : q ≤ m := by rw [← HQ.out]; exact Nat.div_le_self _ _
      go_wp2_with fail
      have hjk : j < Oct.klen m := by
        rcases Nat.lt_or_ge j (Oct.klen m) with h | h
        · exact h
        · exfalso
          obtain rfl : j = Oct.klen m := by omega
          have := HQ.out
          rw [Nat.div_eq_of_lt HLT.out] at this
          omega
      refine ⟨⟨j + 1, hjk, ?_, ?_, hf.alloc _⟩, by simp [intOf]; omega⟩
      · rw [Nat.pow_succ, ← Nat.div_div_eq_div_mul, HQ.out]
        rfl
      · refine congrArg Value.string ((str_append_byte _ _).trans ?_)
        rw [Oct.be_cons, HQ.out]
        have : UInt8.ofNat (q % 256) = UInt8.ofNat q := by apply UInt8.toNat_inj.1; simp
        rw [this]

set_option maxRecDepth 100000 in
set_option maxHeartbeats 400000 in
theorem refput_neg (m : Nat) (w : World) (h1 : 1 ≤ m) (h2 : m ≤ 9007199254740992) :
    Calls Try.prog 90 #[.int .i64 (-m : Int)] w fun e w' => e = .returned (.string ⟨(Oct.enc (-m : Int)).toArray⟩) ∧ Frm No w w' := by
  have hc1 := fun (W : World) (x : Int) => conv_one (P := Try.prog) W Try.underlying33 Try.underlying5 Try.underlying9 x
  have hk2 := Oct.klen_le m (by omega)
  have HMIN := hid (fun j => Oct.klen_min m j (by omega))
  have HLT := hid (Oct.lt_klen m (by omega))
  have henc := Oct.enc_in (n := (-m : Int)) (by omega) (by omega)
  rw [show (-m : Int).natAbs = m from by omega] at henc
  rw [decide_eq_true (by omega)] at henc
  have HENC := hid henc
  clear henc
  go_enter Try.func90, Try.ntmps90
  go_wp2_with fail
  go_loopw [0, 4] (fun n s wr => ∃ j : Nat, j ≤ Oct.klen m ∧ n = .int .i64 ((m / 256 ^ j : Nat) : Int) ∧ s = .string ⟨(Oct.be j m).toArray⟩ ∧ Frm No w wr)
    (fun n _ _ => (intOf n).toNat)
  case atStart => exact ⟨0, by omega, by simp, by simp [Oct.be], Frm.refl _ _⟩
  case round =>
    obtain ⟨j, hj, rfl, rfl, hf⟩ := hrel
    obtain ⟨q, hq⟩ : ∃ q : Nat, m / 256 ^ j = q := ⟨_, rfl⟩
    rw [hq]
    have HQ := hid hq
    clear hq
    by_cases h0 : q = 0
    · subst h0
      go_wp2_with fail
      go_ret
      have hjk : j = Oct.klen m := by
        have h3 := HQ.out
        have h4 : m < 256 ^ j := by
          rcases Nat.lt_or_ge m (256 ^ j) with h | h
          · exact h
          · have := (Nat.le_div_iff_mul_le (k := 256 ^ j) (x := 1) (y := m) (Nat.pow_pos (by omega))).2 (by omega)
            omega
        have := HMIN.out j h4
        omega
      rw [HENC.out, ← hjk]
      refine ⟨congrArg (fun s : ByteArray => Ending.returned (Value.string s)) ?_, hf.alloc _⟩
      refine (str_append_byte _ _).trans ?_
      refine congrArg (fun c : UInt8 => (⟨(c :: Oct.be j m).toArray⟩ : ByteArray)) ?_
      first | rfl | (apply UInt8.toNat_inj.1; rw [Oct.hdr_toNat _ _ (by omega)]; simp; omega)
    · have hqm : q ≤ m := by rw [← HQ.out]; exact Nat.div_le_self _ _
      go_wp2_with fail
      have hjk : j < Oct.klen m := by
        rcases Nat.lt_or_ge j (Oct.klen m) with h | h
        · exact h
        · exfalso
          obtain rfl : j = Oct.klen m := by omega
          have := HQ.out
          rw [Nat.div_eq_of_lt HLT.out] at this
          omega
      refine ⟨⟨j + 1, hjk, ?_, ?_, hf.alloc _⟩, by simp [intOf]; omega⟩
      · rw [Nat.pow_succ, ← Nat.div_div_eq_div_mul, HQ.out]
        rfl
      · refine congrArg Value.string ((str_append_byte _ _).trans ?_)
        rw [Oct.be_cons, HQ.out]
        have : UInt8.ofNat (q % 256) = UInt8.ofNat q := by apply UInt8.toNat_inj.1; simp
        rw [this]

set_option maxRecDepth 100000 in
theorem refput_out (n : Int) (w : World) (h : n < -9007199254740992 ∨ 9007199254740992 < n) :
    Calls Try.prog 90 #[.int .i64 n] w fun e w' => e = .returned (.string ⟨(Oct.enc n).toArray⟩) ∧ Frm No w w' := by
  have HENC := hid (Oct.enc_out h)
  rcases h with h | h
  · go_enter Try.func90, Try.ntmps90
    go_wp2_with fail
    go_ret
    rw [HENC.out]
    exact ⟨rfl, Frm.refl _ _⟩
  · go_enter Try.func90, Try.ntmps90
    go_wp2_with fail
    go_ret
    rw [HENC.out]
    exact ⟨rfl, Frm.refl _ _⟩

/-- The reference's Put returns the number's bytes. -/
theorem refput_any (n : Int) (w : World) :
    Calls Try.prog 90 #[.int .i64 n] w fun e w' => e = .returned (.string ⟨(Oct.enc n).toArray⟩) ∧ Frm No w w' := by
  by_cases h : n < -9007199254740992 ∨ 9007199254740992 < n
  · exact refput_out n w h
  · rcases Int.lt_or_le n 0 with h0 | h0
    · obtain ⟨m, rfl⟩ : ∃ m : Nat, n = -(m : Int) := ⟨n.natAbs, by omega⟩
      exact refput_neg m w (by omega) (by omega)
    · obtain ⟨m, rfl⟩ := Int.eq_ofNat_of_zero_le h0
      exact refput_pos m w (by omega) (by omega)
end Go.Proofs.Ytekailaoanpcgaa
