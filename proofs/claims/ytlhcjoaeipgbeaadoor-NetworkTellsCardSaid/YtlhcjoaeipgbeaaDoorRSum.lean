/- The walks of the reference's Sum and Wrap. -/
import Derived.Test.YtlhcjoaeipgbeaaDoorFOpen
namespace Go.Proofs.YtlhcjoaeipgbeaaDoor
open Go.RowKit

/-- The bit that decides: of the register and of the byte. -/
theorem low_bit (r : Crc.R) (c : UInt8) (k : Nat) (_ : k < 8) : (bits BinOp.xor IntKind.u32 ((r.toNat : Nat) : Int) (((c.toNat : Nat) : Int) / 2 ^ k)).tmod 2 = (((r ^^^ Crc.bit c k).toNat % 2 : Nat) : Int) := by
  have e : ((c.toNat : Nat) : Int) / 2 ^ k = (((BitVec.ofNat 32 (c.toNat / 2 ^ k)).toNat : Nat) : Int) := by
    rw [BitVec.toNat_ofNat]
    have h1 : c.toNat / 2 ^ k ≤ c.toNat := Nat.div_le_self _ _
    have := c.toNat_lt
    rw [Nat.mod_eq_of_lt (by omega), Int.natCast_ediv, Int.natCast_pow]
    rfl
  rw [e, xor_u32]
  have h2 : (r ^^^ BitVec.ofNat 32 (c.toNat / 2 ^ k)).toNat % 2 = (r ^^^ Crc.bit c k).toNat % 2 := by
    rw [BitVec.toNat_xor, BitVec.toNat_xor, Crc.bit, BitVec.toNat_ofNat, BitVec.toNat_ofNat]
    have h1 : c.toNat / 2 ^ k ≤ c.toNat := Nat.div_le_self _ _
    have := c.toNat_lt
    rw [Nat.mod_eq_of_lt (show c.toNat / 2 ^ k < 2 ^ 32 by omega), Nat.mod_eq_of_lt (show c.toNat / 2 ^ k % 2 < 2 ^ 32 by omega)]
    have hx : ∀ a b : Nat, (a ^^^ b) % 2 = (a ^^^ b % 2) % 2 := by
      intro a b
      have h := fun x : Nat => Nat.mod_two_eq_one_iff_testBit_zero (x := x)
      have k1 := h (a ^^^ b)
      have k2 := h (a ^^^ b % 2)
      rw [Nat.testBit_xor] at k1 k2
      have k3 : (b % 2).testBit 0 = b.testBit 0 := by simp [Nat.testBit]
      rw [k3] at k2
      have k4 := Nat.mod_lt (a ^^^ b) (show 2 > 0 by omega)
      have k5 := Nat.mod_lt (a ^^^ b % 2) (show 2 > 0 by omega)
      by_cases hb : (a.testBit 0 ^^ b.testBit 0) = true
      · rw [k1.2 hb, k2.2 hb]
      · have n1 : ¬ (a ^^^ b) % 2 = 1 := fun e => hb (k1.1 e)
        have n2 : ¬ (a ^^^ b % 2) % 2 = 1 := fun e => hb (k2.1 e)
        rcases Nat.mod_two_eq_zero_or_one (a ^^^ b) with e1 | e1
        · rcases Nat.mod_two_eq_zero_or_one (a ^^^ b % 2) with e2 | e2
          · rw [e1, e2]
          · exact absurd e2 n2
        · exact absurd e1 n1
    exact hx _ _
  rw [Int.tmod_eq_emod_of_nonneg (Int.natCast_nonneg _), ← h2]
  rfl
theorem T_bit (r : Crc.R) (b : Crc.R) (hb : b.toNat < 2) : Crc.T (r ^^^ b) = if (r ^^^ b).toNat % 2 = 1 then (r >>> 1) ^^^ Crc.P else r >>> 1 := by
  have h1 : (r ^^^ b) >>> 1 = r >>> 1 := by
    rw [BitVec.ushiftRight_xor_distrib]
    have : b >>> 1 = 0#32 := by
      apply BitVec.eq_of_toNat_eq
      rw [BitVec.toNat_ushiftRight, Nat.shiftRight_eq_div_pow]
      show b.toNat / 2 = 0
      omega
    rw [this, BitVec.xor_zero]
  have h2 : (r ^^^ b).getLsbD 0 = decide ((r ^^^ b).toNat % 2 = 1) := by
    show (r ^^^ b).toNat.testBit 0 = _
    have := Nat.mod_two_eq_one_iff_testBit_zero (x := (r ^^^ b).toNat)
    by_cases h : (r ^^^ b).toNat % 2 = 1
    · rw [decide_eq_true h]; exact this.1 h
    · rw [decide_eq_false h]
      cases hb : (r ^^^ b).toNat.testBit 0
      · rfl
      · exact absurd (this.2 hb) h
  unfold Crc.T
  rw [h1, h2]
  by_cases h : (r ^^^ b).toNat % 2 = 1
  · rw [if_pos h, decide_eq_true h, if_pos rfl]
  · rw [if_neg h, decide_eq_false h, if_neg (by simp), BitVec.xor_zero]
theorem bit_lt (c : UInt8) (k : Nat) : (Crc.bit c k).toNat < 2 := by
  rw [Crc.bit, BitVec.toNat_ofNat]
  have := Nat.mod_lt (c.toNat / 2 ^ k) (show 2 > 0 by omega)
  have := Nat.mod_le (c.toNat / 2 ^ k % 2) (2 ^ 32)
  omega

set_option maxRecDepth 100000 in
set_option maxHeartbeats 400000 in
theorem refsum_any (l : List UInt8) (w : World) (hl : l.length ≤ 281474976710656) :
    Calls Tryd.prog 13 #[.string ⟨l.toArray⟩] w fun e w' => e = .returned (.int .u32 (((Crc.sum l).toNat : Nat) : Int)) ∧ w = w' := by
  go_enter Tryd.func13, Tryd.ntmps13
  go_wp2_with fail
  go_loopw [3, 4] (fun r i wr => ∃ k : Nat, k ≤ l.length ∧ i = .int .i64 (k : Int) ∧ r = .int .u32 (((Crc.reg 0xffffffff#32 (l.take k)).toNat : Nat) : Int) ∧ w = wr) (fun _ i _ => l.length - (intOf i).toNat)
  case atStart => exact ⟨0, by omega, rfl, rfl, rfl⟩
  case round =>
    obtain ⟨k, hk, rfl, rfl, rfl⟩ := hrel
    by_cases hkl : k < l.length
    · have hkz : (k : Int) < (l.length : Int) := by omega
      have HR : Hid (Crc.reg 0xffffffff#32 (l.take (k + 1)) = Crc.lows (Crc.reg 0xffffffff#32 (l.take k)) l[k] 8) := by
        refine hid ?_
        rw [List.take_succ_eq_append_getElem hkl, Crc.reg_append, Crc.lows_all]
        rfl
      have HZ := hid (Crc.lows_zero (Crc.reg 0xffffffff#32 (l.take k)) l[k])
      generalize Crc.reg 0xffffffff#32 (l.take k) = r0 at *
      go_wp2_with fail
      go_loopw [3, 5] (fun r i wr => ∃ j : Nat, j ≤ 8 ∧ i = .int .i64 (j : Int) ∧ r = .int .u32 (((Crc.lows r0 l[k] j).toNat : Nat) : Int) ∧ w = wr) (fun _ i _ => 8 - (intOf i).toNat)
      case atStart => exact ⟨0, by omega, rfl, by rw [HZ.out], rfl⟩
      case round =>
        obtain ⟨j, hj, rfl, rfl, rfl⟩ := hrel
        by_cases hj8 : j < 8
        · have hjz : (j : Int) < 8 := by omega
          have HN := hid ((Crc.lows_succ r0 l[k] j (by omega)).trans (T_bit _ _ (bit_lt _ _)))
          have hm : ((l[k].toNat : Nat) : Int) % 4294967296 = ((l[k].toNat : Nat) : Int) := by have := l[k].toNat_lt; omega
          have hB := low_bit (Crc.lows r0 l[k] j) l[k] j hj8
          generalize Crc.lows r0 l[k] j = y at *
          by_cases hbit : (y ^^^ Crc.bit l[k] j).toNat % 2 = 1
          · rw [if_pos hbit] at HN
            rw [hbit] at hB
            have hB1 : (bits BinOp.xor IntKind.u32 ((y.toNat : Nat) : Int) (((l[k].toNat : Nat) : Int) / 2 ^ j)).tmod 2 = 1 := hB
            clear hB
            have h2 : ((y.toNat : Nat) : Int) / (2 : Int) = (((y >>> 1).toNat : Nat) : Int) := by
              rw [BitVec.toNat_ushiftRight, Nat.shiftRight_eq_div_pow]; rfl
            have hP := xor_u32 (y >>> 1) Crc.P
            have hPn : ((Crc.P.toNat : Nat) : Int) = 3988292384 := by decide
            rw [hPn] at hP
            generalize y >>> 1 ^^^ Crc.P = z at *
            generalize y >>> 1 = y1 at *
            clear hbit
            go_wp2_with fail
            exact ⟨⟨j + 1, by omega, by go_num, by rw [HN.out], trivial⟩, by simp [intOf]; omega⟩
          · rw [if_neg hbit] at HN
            have hbit0 : (y ^^^ Crc.bit l[k] j).toNat % 2 = 0 := by omega
            rw [hbit0] at hB
            have hB1 : (bits BinOp.xor IntKind.u32 ((y.toNat : Nat) : Int) (((l[k].toNat : Nat) : Int) / 2 ^ j)).tmod 2 = 0 := hB
            clear hB
            have h2 : ((y.toNat : Nat) : Int) / (2 : Int) = (((y >>> 1).toNat : Nat) : Int) := by
              rw [BitVec.toNat_ushiftRight, Nat.shiftRight_eq_div_pow]; rfl
            generalize y >>> 1 = y1 at *
            clear hbit hbit0
            go_wp2_with fail
            exact ⟨⟨j + 1, by omega, by go_num, by rw [HN.out], trivial⟩, by simp [intOf]; omega⟩
        · obtain rfl : j = 8 := by omega
          rw [← HR.out]
          go_wp2_with fail
          exact ⟨⟨k + 1, by omega, by go_num, rfl, trivial⟩, by simp [intOf]; omega⟩
    · obtain rfl : k = l.length := by omega
      have HS : Hid (Crc.sum l = ~~~ (Crc.reg 0xffffffff#32 l)) := rfl
      rw [List.take_length]
      have hn : 4294967295 - (((Crc.reg 0xffffffff#32 l).toNat : Nat) : Int) = (((~~~ (Crc.reg 0xffffffff#32 l)).toNat : Nat) : Int) := by
        rw [BitVec.toNat_not]
        have := (Crc.reg 0xffffffff#32 l).isLt
        omega
      generalize Crc.reg 0xffffffff#32 l = r at *
      generalize ~~~ r = z at *
      have hrl := r.isLt
      go_wp2_with fail
      go_ret
      exact ⟨by rw [HS.out]; rfl, rfl⟩
end Go.Proofs.YtlhcjoaeipgbeaaDoor
