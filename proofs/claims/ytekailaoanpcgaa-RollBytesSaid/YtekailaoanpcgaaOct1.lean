/- The walks of octets.Put and of the reference's Put. -/
import Derived.Test.YtekailaoanpcgaaLib
import Derived.Test.YtekailaoanpcgaaPlainOct
import Derived.Test.YtekailaoanpcgaaShelf
namespace Go.Proofs.Ytekailaoanpcgaa
open Go.RowKit
theorem info_u8 : (Try.prog.info? 5).map (fun i => (i.zero, i.size, i.bytes)) = some (some (.int .u8 0), 1, 1) := by kernel_rfl

theorem put_step (h : UInt8) (k m j : Nat) (hj : j + 1 ≤ k) :
    bytesV (h :: Oct.be (k - (j + 1)) (m / 256 ^ (j + 1))) ++ [Value.int .u8 ((m : Int) / 2 ^ (8 * j) % 256)] = bytesV (h :: Oct.be (k - j) (m / 256 ^ j)) := by
  obtain ⟨i, rfl⟩ : ∃ i, k = j + 1 + i := ⟨k - (j + 1), by omega⟩
  have e1 : j + 1 + i - (j + 1) = i := by omega
  have e2 : j + 1 + i - j = i + 1 := by omega
  have e3 : m / 256 ^ j / 256 = m / 256 ^ (j + 1) := by rw [Nat.div_div_eq_div_mul, Nat.pow_succ]
  have e4 : (m : Int) / 2 ^ (8 * j) % 256 = ((UInt8.ofNat (m / 256 ^ j)).toNat : Int) := by
    have h2 : (2 : Int) ^ (8 * j) = (256 : Int) ^ j := by
      rw [Int.pow_mul]
      exact congrArg (fun x : Int => x ^ j) (by decide)
    rw [h2, UInt8.toNat_ofNat', Int.natCast_emod, Int.natCast_ediv, Int.natCast_pow]
    rfl
  rw [e1, e2, Oct.be, e3, e4, ← List.cons_append, bytesV_append]
  rfl

theorem len_any (n : Int) (w : World) (h0 : 0 ≤ n) (h1 : n ≤ 18446744073709551615) :
    Calls Try.prog 97 #[.int .u64 n] w fun e w' => e = .returned (.int .i64 (Lib.bitLen n.toNat)) ∧ w = w' := (Try.bits_Len n w h0 h1).mono fun _ _ ⟨a, b⟩ => ⟨a, b.symm⟩

set_option maxRecDepth 100000 in
set_option maxHeartbeats 400000 in
theorem put_pos (m : Nat) (w : World) (h1 : 0 ≤ m) (h2 : m ≤ 9007199254740992) :
    Calls Try.prog 71 #[.int .i64 (m : Int)] w fun e w' => e = .returned (.string ⟨(Oct.enc (m : Int)).toArray⟩) ∧ Frm No w w' := by
  have hk1 := Oct.bitLen_klen m (by omega)
  have hk2 := Oct.klen_le m (by omega)
  have henc := Oct.enc_in (n := (m : Int)) (by omega) (by omega)
  obtain ⟨k, hk⟩ : ∃ k : Nat, Oct.klen m = k := ⟨_, rfl⟩
  have hk3 : ((Lib.bitLen m : Int) + 7) / 8 = k := by omega
  rw [show (m : Int).natAbs = m from by omega, hk] at henc
  rw [decide_eq_false (by omega)] at henc
  rw [hk] at hk2
  have HENC := hid henc
  clear hk hk1 henc
  have hor : bits BinOp.or IntKind.u8 0 (k : Int) = ((Oct.hdr false k).toNat : Int) := by
    have : ∀ j : Fin 8, bits BinOp.or IntKind.u8 0 (j.val : Int) = ((Oct.hdr false j.val).toNat : Int) := by decide +kernel
    exact this ⟨k, by omega⟩
  obtain ⟨i0, hi, hz0, hz1, hz2⟩ := info_parts info_u8
  go_enter Try.func71, Try.ntmps71
  go_wp2_with (first | (go_at_call 97; refine (len_any _ _ (by omega) (by omega)).mono ?_; rintro e w' ⟨rfl, rfl⟩) | (at_make; refine wpList_make_own _ rfl _ _ 33 rfl w.heap.size 5 i0 (.int .u8 0) 1 Try.underlying33 hi hz0 hz1 .i64 .i64 _ (k + 1) rfl rfl rfl (by rw [hz2]; omega) (by unfold maxLen; omega) (by simp) ?_; intro w1 hown hgrow) | (at_builtin; refine wpList_push1 _ rfl _ _ 33 rfl w.heap.size 5 i0 _ 1 Try.underlying33 hi hz0 hz1 hz2 rfl _ 0 [] rfl hown _ rfl rfl (by omega) (by omega) (by have := hgrow.size; omega) ?_; intro v1 w2 hown1 hf1 hv1 hs1; clear hown))
  have hno : ∀ i, i < w.heap.size → Own (Value.slice (some ⟨w.heap.size, 0, none⟩) 0 (k + 1)) i → No i := by
    intro i hi h; simp [Own, Value.ownBlock] at h; omega
  go_loopw [5, 6] (fun v i wr => ∃ j : Nat, j ≤ k ∧ i = .int .i64 ((j : Int) - 1) ∧ wr.ownsRow w.heap.size 5 1 v (1 + (k - j)) (bytesV (Oct.hdr false k :: Oct.be (k - j) (m / 256 ^ j))) ∧ Frm No w wr)
    (fun _ i _ => (intOf i + 1).toNat)
  case atStart => exact ⟨k, by omega, rfl, by rw [Nat.sub_self]; exact hown1, ((Frm.ofGrown hgrow (fun _ e => by cases e)).then_ hf1).weak hno⟩
  case round =>
    obtain ⟨j, hj, rfl, hownr, hf⟩ := hrel
    have hsz := hf.size
    by_cases h0 : j = 0
    · subst h0
      have hcv := run_convert_own (P := Try.prog) Try.underlying33 Try.underlying5 Try.underlying9 hownr
      rw [show ((0 : Nat) : Int) - 1 = -1 from rfl]
      go_wp2_with fail
      go_ret
      rw [HENC.out]
      exact ⟨rfl, hf⟩
    · obtain ⟨j, rfl⟩ : ∃ i, j = i + 1 := ⟨j - 1, by omega⟩
      rw [show ((j + 1 : Nat) : Int) - 1 = (j : Int) from by omega]
      go_wp2_with (at_builtin; refine wpList_push1 _ rfl _ _ 33 rfl w.heap.size 5 i0 _ 1 Try.underlying33 hi hz0 hz1 hz2 rfl _ _ _ rfl hownr _ rfl rfl (by omega) (by omega) (by omega) ?_; intro v2 w3 hown2 hf2 hv2 hs2)
      refine ⟨⟨j, by omega, rfl, ?_, hf.trans hf2 (fun _ _ h => h) (fun i hi h => ?_)⟩, by simp [intOf]⟩
      · rw [put_step _ _ _ _ hj] at hown2
        rw [show 1 + (k - j) = 1 + (k - (j + 1)) + 1 from by omega]
        exact hown2
      · have := hownr.lt _ h
        omega

set_option maxRecDepth 100000 in
set_option maxHeartbeats 400000 in
theorem put_neg (m : Nat) (w : World) (h1 : 1 ≤ m) (h2 : m ≤ 9007199254740992) :
    Calls Try.prog 71 #[.int .i64 (-m : Int)] w fun e w' => e = .returned (.string ⟨(Oct.enc (-m : Int)).toArray⟩) ∧ Frm No w w' := by
  have hk1 := Oct.bitLen_klen m (by omega)
  have hk2 := Oct.klen_le m (by omega)
  have henc := Oct.enc_in (n := (-m : Int)) (by omega) (by omega)
  obtain ⟨k, hk⟩ : ∃ k : Nat, Oct.klen m = k := ⟨_, rfl⟩
  have hk3 : ((Lib.bitLen m : Int) + 7) / 8 = k := by omega
  rw [show (-m : Int).natAbs = m from by omega, hk] at henc
  rw [decide_eq_true (by omega)] at henc
  rw [hk] at hk2
  have HENC := hid henc
  clear hk hk1 henc
  have hor : bits BinOp.or IntKind.u8 128 (k : Int) = ((Oct.hdr true k).toNat : Int) := by
    have : ∀ j : Fin 8, bits BinOp.or IntKind.u8 128 (j.val : Int) = ((Oct.hdr true j.val).toNat : Int) := by decide +kernel
    exact this ⟨k, by omega⟩
  obtain ⟨i0, hi, hz0, hz1, hz2⟩ := info_parts info_u8
  go_enter Try.func71, Try.ntmps71
  go_wp2_with (first | (go_at_call 97; refine (len_any _ _ (by omega) (by omega)).mono ?_; rintro e w' ⟨rfl, rfl⟩) | (at_make; refine wpList_make_own _ rfl _ _ 33 rfl w.heap.size 5 i0 (.int .u8 0) 1 Try.underlying33 hi hz0 hz1 .i64 .i64 _ (k + 1) rfl rfl rfl (by rw [hz2]; omega) (by unfold maxLen; omega) (by simp) ?_; intro w1 hown hgrow) | (at_builtin; refine wpList_push1 _ rfl _ _ 33 rfl w.heap.size 5 i0 _ 1 Try.underlying33 hi hz0 hz1 hz2 rfl _ 0 [] rfl hown _ rfl rfl (by omega) (by omega) (by have := hgrow.size; omega) ?_; intro v1 w2 hown1 hf1 hv1 hs1; clear hown))
  have hno : ∀ i, i < w.heap.size → Own (Value.slice (some ⟨w.heap.size, 0, none⟩) 0 (k + 1)) i → No i := by
    intro i hi h; simp [Own, Value.ownBlock] at h; omega
  go_loopw [5, 6] (fun v i wr => ∃ j : Nat, j ≤ k ∧ i = .int .i64 ((j : Int) - 1) ∧ wr.ownsRow w.heap.size 5 1 v (1 + (k - j)) (bytesV (Oct.hdr true k :: Oct.be (k - j) (m / 256 ^ j))) ∧ Frm No w wr)
    (fun _ i _ => (intOf i + 1).toNat)
  case atStart => exact ⟨k, by omega, rfl, by rw [Nat.sub_self]; exact hown1, ((Frm.ofGrown hgrow (fun _ e => by cases e)).then_ hf1).weak hno⟩
  case round =>
    obtain ⟨j, hj, rfl, hownr, hf⟩ := hrel
    have hsz := hf.size
    by_cases h0 : j = 0
    · subst h0
      have hcv := run_convert_own (P := Try.prog) Try.underlying33 Try.underlying5 Try.underlying9 hownr
      rw [show ((0 : Nat) : Int) - 1 = -1 from rfl]
      go_wp2_with fail
      go_ret
      rw [HENC.out]
      exact ⟨rfl, hf⟩
    · obtain ⟨j, rfl⟩ : ∃ i, j = i + 1 := ⟨j - 1, by omega⟩
      rw [show ((j + 1 : Nat) : Int) - 1 = (j : Int) from by omega]
      go_wp2_with (at_builtin; refine wpList_push1 _ rfl _ _ 33 rfl w.heap.size 5 i0 _ 1 Try.underlying33 hi hz0 hz1 hz2 rfl _ _ _ rfl hownr _ rfl rfl (by omega) (by omega) (by omega) ?_; intro v2 w3 hown2 hf2 hv2 hs2)
      refine ⟨⟨j, by omega, rfl, ?_, hf.trans hf2 (fun _ _ h => h) (fun i hi h => ?_)⟩, by simp [intOf]⟩
      · rw [put_step _ _ _ _ hj] at hown2
        rw [show 1 + (k - j) = 1 + (k - (j + 1)) + 1 from by omega]
        exact hown2
      · have := hownr.lt _ h
        omega

set_option maxRecDepth 100000 in
theorem put_out (n : Int) (w : World) (h : n < -9007199254740992 ∨ 9007199254740992 < n) :
    Calls Try.prog 71 #[.int .i64 n] w fun e w' => e = .returned (.string ⟨(Oct.enc n).toArray⟩) ∧ Frm No w w' := by
  have HENC := hid (Oct.enc_out h)
  rcases h with h | h
  · go_enter Try.func71, Try.ntmps71
    go_wp2_with fail
    go_ret
    rw [HENC.out]
    exact ⟨rfl, Frm.refl _ _⟩
  · go_enter Try.func71, Try.ntmps71
    go_wp2_with fail
    go_ret
    rw [HENC.out]
    exact ⟨rfl, Frm.refl _ _⟩

/-- octets.Put returns the number's bytes. -/
theorem put_any (n : Int) (w : World) :
    Calls Try.prog 71 #[.int .i64 n] w fun e w' => e = .returned (.string ⟨(Oct.enc n).toArray⟩) ∧ Frm No w w' := by
  by_cases h : n < -9007199254740992 ∨ 9007199254740992 < n
  · exact put_out n w h
  · rcases Int.lt_or_le n 0 with h0 | h0
    · obtain ⟨m, rfl⟩ : ∃ m : Nat, n = -(m : Int) := ⟨n.natAbs, by omega⟩
      exact put_neg m w (by omega) (by omega)
    · obtain ⟨m, rfl⟩ := Int.eq_ofNat_of_zero_le h0
      exact put_pos m w (by omega) (by omega)
end Go.Proofs.Ytekailaoanpcgaa
