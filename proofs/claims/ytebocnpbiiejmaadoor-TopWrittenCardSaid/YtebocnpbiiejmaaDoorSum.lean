/- The walks of frame.Sum and of the reference's Sum. -/
import Derived.Test.YtebocnpbiiejmaaDoorOctAll
import Derived.Test.YtebocnpbiiejmaaDoorFrmLaw
namespace Go.Proofs.YtebocnpbiiejmaaDoor
open Go.RowKit

/-- The table lies where the program laid it. -/
def Tab (w : World) : Prop := ∀ i, i < 16 → w.cell? ⟨1, i, none⟩ = some (.int .u32 (((Crc.H.getD i 0#32).toNat : Nat) : Int))
theorem Tab.frm {w w' : World} {S : Nat → Prop} (h : Tab w) (hf : Frm S w w') (hS : ¬ S 1) : Tab w' := fun i hi => (hf.cell (p := ⟨1, i, none⟩) (World.block_lt_of_cell? w _ (h i hi)) hS).trans (h i hi)
theorem Tab.no {w w' : World} (h : Tab w) (hf : Frm No w w') : Tab w' := h.frm hf (fun h => h)
theorem Tab.lt {w : World} (h : Tab w) : 1 < w.heap.size := World.block_lt_of_cell? w _ (h 0 (by omega))

theorem u32_of (x : Crc.R) : BitVec.ofInt 32 ((x.toNat : Nat) : Int) = x := by
  apply BitVec.eq_of_toNat_eq
  rw [BitVec.toNat_ofInt]
  have := x.isLt
  omega
theorem u32_byte (c : UInt8) : BitVec.ofInt 32 ((c.toNat : Nat) : Int) = Crc.byte c := by
  apply BitVec.eq_of_toNat_eq
  rw [BitVec.toNat_ofInt, Crc.byte, BitVec.toNat_ofNat]
  omega

theorem xor_u32 (a b : Crc.R) : bits BinOp.xor IntKind.u32 ((a.toNat : Nat) : Int) ((b.toNat : Nat) : Int) = (((a ^^^ b).toNat : Nat) : Int) := by
  have h : bits BinOp.xor IntKind.u32 ((a.toNat : Nat) : Int) ((b.toNat : Nat) : Int) = IntKind.wrap .u32 (((BitVec.ofInt 32 ((a.toNat : Nat) : Int) ^^^ BitVec.ofInt 32 ((b.toNat : Nat) : Int)).toNat : Nat) : Int) := rfl
  rw [h, u32_of, u32_of]
  have := (a ^^^ b).isLt
  exact IntWalk.u32_in _ ⟨by omega, by omega⟩
theorem xor_byte (a : Crc.R) (c : UInt8) : bits BinOp.xor IntKind.u32 ((a.toNat : Nat) : Int) ((c.toNat : Nat) : Int) = (((a ^^^ Crc.byte c).toNat : Nat) : Int) := by
  have e : ((c.toNat : Nat) : Int) = (((Crc.byte c).toNat : Nat) : Int) := by
    rw [← u32_byte, BitVec.toNat_ofInt]
    have := c.toNat_lt
    omega
  rw [e, xor_u32]
theorem and15 (a : Crc.R) : bits BinOp.and IntKind.u32 ((a.toNat : Nat) : Int) 15 = ((a.toNat % 16 : Nat) : Int) := by
  have h : bits BinOp.and IntKind.u32 ((a.toNat : Nat) : Int) 15 = IntKind.wrap .u32 (((BitVec.ofInt 32 ((a.toNat : Nat) : Int) &&& BitVec.ofInt 32 15).toNat : Nat) : Int) := rfl
  have e : (BitVec.ofInt 32 15).toNat = 15 := by decide
  rw [h, u32_of, BitVec.toNat_and, e, show (15 : Nat) = 2 ^ 4 - 1 by rfl, Nat.and_two_pow_sub_one_eq_mod]
  have := Nat.mod_lt a.toNat (show 2 ^ 4 > 0 by omega)
  exact IntWalk.u32_in _ ⟨by omega, by omega⟩
/-- A half step: the table's number at the low four bits, and the rest moved down. -/
theorem half_bits (a t : Crc.R) (ht : Crc.H.getD (a.toNat % 16) 0#32 = t) : bits BinOp.xor IntKind.u32 (((a.toNat : Nat) : Int) / 16) ((t.toNat : Nat) : Int) = (((Crc.half a).toNat : Nat) : Int) := by
  have e : ((a.toNat : Nat) : Int) / (16 : Int) = (((a >>> 4).toNat : Nat) : Int) := by
    rw [BitVec.toNat_ushiftRight, Nat.shiftRight_eq_div_pow]
    omega
  rw [e, xor_u32, Crc.half, ht]
theorem not_bits (a : Crc.R) : bits BinOp.xor IntKind.u32 IntKind.u32.max ((a.toNat : Nat) : Int) = (((~~~ a).toNat : Nat) : Int) := by
  have h : bits BinOp.xor IntKind.u32 IntKind.u32.max ((a.toNat : Nat) : Int) = IntKind.wrap .u32 (((BitVec.ofInt 32 IntKind.u32.max ^^^ BitVec.ofInt 32 ((a.toNat : Nat) : Int)).toNat : Nat) : Int) := rfl
  have e : BitVec.ofInt 32 IntKind.u32.max = BitVec.allOnes 32 := by decide
  rw [h, u32_of, e, BitVec.xor_comm, BitVec.xor_allOnes]
  have := (~~~ a).isLt
  exact IntWalk.u32_in _ ⟨by omega, by omega⟩
def halfN : Nat → Crc.R → Crc.R
  | 0, r => r
  | n + 1, r => Crc.half (halfN n r)

set_option maxRecDepth 100000 in
theorem sum_any (l : List UInt8) (w : World) (hT : Tab w) (hl : l.length ≤ 281474976710656) :
    Calls Tryd.prog 71 #[.string ⟨l.toArray⟩] w fun e w' => e = .returned (.int .u32 (((Crc.sum l).toNat : Nat) : Int)) ∧ w = w' := by
  go_enter Tryd.func71, Tryd.ntmps71
  go_wp2_with fail
  go_loopw [3, 7] (fun r i wr => ∃ k : Nat, k ≤ l.length ∧ i = .int .i64 (k : Int) ∧ r = .int .u32 (((Crc.reg 0xffffffff#32 (l.take k)).toNat : Nat) : Int) ∧ w = wr) (fun _ i _ => l.length - (intOf i).toNat)
  case atStart => exact ⟨0, by omega, rfl, rfl, rfl⟩
  case round =>
    obtain ⟨k, hk, rfl, rfl, rfl⟩ := hrel
    by_cases hkl : k < l.length
    · have hkz : (k : Int) < (l.length : Int) := by omega
      have HR : Hid (Crc.reg 0xffffffff#32 (l.take (k + 1)) = halfN 2 (Crc.reg 0xffffffff#32 (l.take k) ^^^ Crc.byte l[k])) := by
        refine hid ?_
        rw [List.take_succ_eq_append_getElem hkl, Crc.reg_append]
        exact (Crc.feed_half _ _).symm
      have hm : ((l[k].toNat : Nat) : Int) % 4294967296 = ((l[k].toNat : Nat) : Int) := by have := l[k].toNat_lt; omega
      have hx := xor_byte (Crc.reg 0xffffffff#32 (l.take k)) l[k]
      generalize Crc.reg 0xffffffff#32 (l.take k) = r at *
      generalize r ^^^ Crc.byte l[k] = x at *
      go_wp2_with fail
      go_loopw [3, 16] (fun r i wr => ∃ j : Nat, j ≤ 2 ∧ i = .int .i64 (j : Int) ∧ r = .int .u32 (((halfN j x).toNat : Nat) : Int) ∧ w = wr) (fun _ i _ => 2 - (intOf i).toNat)
      case atStart => exact ⟨0, by omega, rfl, rfl, rfl⟩
      case round =>
        obtain ⟨j, hj, rfl, rfl, rfl⟩ := hrel
        by_cases hj2 : j < 2
        · have hjz : (j : Int) < 2 := by omega
          have HN : Hid (halfN (j + 1) x = Crc.half (halfN j x)) := rfl
          generalize halfN j x = y at *
          have hA := and15 y
          have hT1 := hT (y.toNat % 16) (Nat.mod_lt _ (by omega))
          have hB := half_bits y _ rfl
          have hm16 : ((y.toNat % 16 : Nat) : Int) < 16 := by omega
          generalize Crc.half y = z at *
          generalize Crc.H.getD (y.toNat % 16) 0#32 = t at *
          generalize y.toNat % 16 = m at *
          go_wp2_with fail
          exact ⟨⟨j + 1, by omega, by go_num, by rw [HN.out], trivial⟩, by simp [intOf]; omega⟩
        · obtain rfl : j = 2 := by omega
          rw [← HR.out]
          go_wp2_with fail
          exact ⟨⟨k + 1, by omega, by go_num, rfl, trivial⟩, by simp [intOf]; omega⟩
    · obtain rfl : k = l.length := by omega
      have hN := not_bits (Crc.reg 0xffffffff#32 l)
      have HS : Hid (Crc.sum l = ~~~ (Crc.reg 0xffffffff#32 l)) := rfl
      rw [List.take_length]
      generalize Crc.reg 0xffffffff#32 l = r at *
      generalize ~~~ r = z at *
      go_wp2_with fail
      go_ret
      refine ⟨?_, rfl⟩
      rw [HS.out, ← hN]
      rfl
end Go.Proofs.YtebocnpbiiejmaaDoor
