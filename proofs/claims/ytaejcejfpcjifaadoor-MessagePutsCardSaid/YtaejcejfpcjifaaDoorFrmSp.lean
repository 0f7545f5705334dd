/- The walks of the reference's Sum and Wrap. The walks of the reference's Wrap and Open. The walk of the frames' speaks. The walk of FrameSpoilt: frames with one to four consecutive changed bytes, truncated frames and extended frames are rejected. -/
import Derived.Test.YtaejcejfpcjifaaDoorFOpen
import Derived.Lib.ConvBytes
import Derived.Lib.AtoiErrMem
namespace Go.Proofs.YtaejcejfpcjifaaDoor
open Go.RowKit

/-- The bit that decides: of the register and of the byte. -/
theorem low_bit (r : Crc.R) (c : UInt8) (k : Nat) (_ : k < 8) : (bits BinOp.xor IntKind.u32 ((r.toNat : Nat) : Int) (((c.toNat : Nat) : Int) / 2 ^ k)).tmod 2 = (((r ^^^ Crc.bit c k).toNat % 2 : Nat) : Int) := by
  have e : ((c.toNat : Nat) : Int) / 2 ^ k = (((BitVec.ofNat 32 (c.toNat / 2 ^ k)).toNat : Nat) : Int) := by
    rw [BitVec.toNat_ofNat]
    have h1 : c.toNat / 2 ^ k ≤ c.toNat := Nat.div_le_self _ _
    have := c.toNat_lt
    rw [Nat.mod_eq_of_lt (by omega), Int.natCast_ediv, Int.natCast_pow]
    rfl
  rw [e, xor_u32]
  have h2 : (r ^^^ BitVec.ofNat 32 (c.toNat / 2 ^ k)).toNat % 2 = (r ^^^ Crc.bit c k).toNat % 2 := by
    rw [BitVec.toNat_xor, BitVec.toNat_xor, Crc.bit, BitVec.toNat_ofNat, BitVec.toNat_ofNat]
    have h1 : c.toNat / 2 ^ k ≤ c.toNat := Nat.div_le_self _ _
    have := c.toNat_lt
    rw [Nat.mod_eq_of_lt (show c.toNat / 2 ^ k < 2 ^ 32 by omega), Nat.mod_eq_of_lt (show c.toNat / 2 ^ k % 2 < 2 ^ 32 by omega)]
    have hx : ∀ a b : Nat, (a ^^^ b) % 2 = (a ^^^ b % 2) % 2 := by
      intro a b
      have h := fun x : Nat => Nat.mod_two_eq_one_iff_testBit_zero (x := x)
      have k1 := h (a ^^^ b)
      have k2 := h (a ^^^ b % 2)
      rw [Nat.testBit_xor] at k1 k2
      have k3 : (b % 2).testBit 0 = b.testBit 0 := by simp [Nat.testBit]
      rw [k3] at k2
      have k4 := Nat.mod_lt (a ^^^ b) (show 2 > 0 by omega)
      have k5 := Nat.mod_lt (a ^^^ b % 2) (show 2 > 0 by omega)
      by_cases hb : (a.testBit 0 ^^ b.testBit 0) = true
      · rw [k1.2 hb, k2.2 hb]
      · have n1 : ¬ (a ^^^ b) % 2 = 1 := fun e => hb (k1.1 e)
        have n2 : ¬ (a ^^^ b % 2) % 2 = 1 := fun e => hb (k2.1 e)
        rcases Nat.mod_two_eq_zero_or_one (a ^^^ b) with e1 | e1
        · rcases Nat.mod_two_eq_zero_or_one (a ^^^ b % 2) with e2 | e2
          · rw [e1, e2]
          · exact absurd e2 n2
        · exact absurd e1 n1
    exact hx _ _
  rw [Int.tmod_eq_emod_of_nonneg (Int.natCast_nonneg _), ← h2]
  rfl
theorem T_bit (r : Crc.R) (b : Crc.R) (hb : b.toNat < 2) : Crc.T (r ^^^ b) = if (r ^^^ b).toNat % 2 = 1 then (r >>> 1) ^^^ Crc.P else r >>> 1 := by
  have h1 : (r ^^^ b) >>> 1 = r >>> 1 := by
    rw [BitVec.ushiftRight_xor_distrib]
    have : b >>> 1 = 0#32 := by
      apply BitVec.eq_of_toNat_eq
      rw [BitVec.toNat_ushiftRight, Nat.shiftRight_eq_div_pow]
      show b.toNat / 2 = 0
      omega
    rw [this, BitVec.xor_zero]
  have h2 : (r ^^^ b).getLsbD 0 = decide ((r ^^^ b).toNat % 2 = 1) := by
    show (r ^^^ b).toNat.testBit 0 = _
    have := Nat.mod_two_eq_one_iff_testBit_zero (x := (r ^^^ b).toNat)
    by_cases h : (r ^^^ b).toNat % 2 = 1
    · rw [decide_eq_true h]; exact this.1 h
    · rw [decide_eq_false h]
      cases hb : (r ^^^ b).toNat.testBit 0
      · rfl
      · exact absurd (this.2 hb) h
  unfold Crc.T
  rw [h1, h2]
  by_cases h : (r ^^^ b).toNat % 2 = 1
  · rw [if_pos h, decide_eq_true h, if_pos rfl]
  · rw [if_neg h, decide_eq_false h, if_neg (by simp), BitVec.xor_zero]
theorem bit_lt (c : UInt8) (k : Nat) : (Crc.bit c k).toNat < 2 := by
  rw [Crc.bit, BitVec.toNat_ofNat]
  have := Nat.mod_lt (c.toNat / 2 ^ k) (show 2 > 0 by omega)
  have := Nat.mod_le (c.toNat / 2 ^ k % 2) (2 ^ 32)
  omega

set_option maxRecDepth 100000 in
set_option maxHeartbeats 400000 in
theorem refsum_any (l : List UInt8) (w : World) (hl : l.length ≤ 281474976710656) :
    Calls Tryd.prog 50 #[.string ⟨l.toArray⟩] w fun e w' => e = .returned (.int .u32 (((Crc.sum l).toNat : Nat) : Int)) ∧ w = w' := by
  go_enter Tryd.func50, Tryd.ntmps50
  go_wp2_with fail
  go_loopw [3, 4] (fun r i wr => ∃ k : Nat, k ≤ l.length ∧ i = .int .i64 (k : Int) ∧ r = .int .u32 (((Crc.reg 0xffffffff#32 (l.take k)).toNat : Nat) : Int) ∧ w = wr) (fun _ i _ => l.length - (intOf i).toNat)
  case atStart => exact ⟨0, by omega, rfl, rfl, rfl⟩
  case round =>
    obtain ⟨k, hk, rfl, rfl, rfl⟩ := hrel
    by_cases hkl : k < l.length
    · have hkz : (k : Int) < (l.length : Int) := by omega
      have HR : Hid (Crc.reg 0xffffffff#32 (l.take (k + 1)) = Crc.lows (Crc.reg 0xffffffff#32 (l.take k)) l[k] 8) := by
        refine hid ?_
        rw [List.take_succ_eq_append_getElem hkl, Crc.reg_append, Crc.lows_all]
        rfl
      have HZ := hid (Crc.lows_zero (Crc.reg 0xffffffff#32 (l.take k)) l[k])
      generalize Crc.reg 0xffffffff#32 (l.take k) = r0 at *
      go_wp2_with fail
      go_loopw [3, 5] (fun r i wr => ∃ j : Nat, j ≤ 8 ∧ i = .int .i64 (j : Int) ∧ r = .int .u32 (((Crc.lows r0 l[k] j).toNat : Nat) : Int) ∧ w = wr) (fun _ i _ => 8 - (intOf i).toNat)
      case atStart => exact ⟨0, by omega, rfl, by rw [HZ.out], rfl⟩
      case round =>
        obtain ⟨j, hj, rfl, rfl, rfl⟩ := hrel
        by_cases hj8 : j < 8
        · have hjz : (j : Int) < 8 := by omega
          have HN := hid ((Crc.lows_succ r0 l[k] j (by omega)).trans (T_bit _ _ (bit_lt _ _)))
          have hm : ((l[k].toNat : Nat) : Int) % 4294967296 = ((l[k].toNat : Nat) : Int) := by have := l[k].toNat_lt; omega
          have hB := low_bit (Crc.lows r0 l[k] j) l[k] j hj8
          generalize Crc.lows r0 l[k] j = y at *
          by_cases hbit : (y ^^^ Crc.bit l[k] j).toNat % 2 = 1
          · rw [if_pos hbit] at HN
            rw [hbit] at hB
            have hB1 : (bits BinOp.xor IntKind.u32 ((y.toNat : Nat) : Int) (((l[k].toNat : Nat) : Int) / 2 ^ j)).tmod 2 = 1 := hB
            clear hB
            have h2 : ((y.toNat : Nat) : Int) / (2 : Int) = (((y >>> 1).toNat : Nat) : Int) := by
              rw [BitVec.toNat_ushiftRight, Nat.shiftRight_eq_div_pow]; rfl
            have hP := xor_u32 (y >>> 1) Crc.P
            have hPn : ((Crc.P.toNat : Nat) : Int) = 3988292384 := by decide
            rw [hPn] at hP
            generalize y >>> 1 ^^^ Crc.P = z at *
            generalize y >>> 1 = y1 at *
            clear hbit
            go_wp2_with fail
            exact ⟨⟨j + 1, by omega, by go_num, by rw [HN.out], trivial⟩, by simp [intOf]; omega⟩
          · rw [if_neg hbit] at HN
            have hbit0 : (y ^^^ Crc.bit l[k] j).toNat % 2 = 0 := by omega
            rw [hbit0] at hB
            have hB1 : (bits BinOp.xor IntKind.u32 ((y.toNat : Nat) : Int) (((l[k].toNat : Nat) : Int) / 2 ^ j)).tmod 2 = 0 := hB
            clear hB
            have h2 : ((y.toNat : Nat) : Int) / (2 : Int) = (((y >>> 1).toNat : Nat) : Int) := by
              rw [BitVec.toNat_ushiftRight, Nat.shiftRight_eq_div_pow]; rfl
            generalize y >>> 1 = y1 at *
            clear hbit hbit0
            go_wp2_with fail
            exact ⟨⟨j + 1, by omega, by go_num, by rw [HN.out], trivial⟩, by simp [intOf]; omega⟩
        · obtain rfl : j = 8 := by omega
          rw [← HR.out]
          go_wp2_with fail
          exact ⟨⟨k + 1, by omega, by go_num, rfl, trivial⟩, by simp [intOf]; omega⟩
    · obtain rfl : k = l.length := by omega
      have HS : Hid (Crc.sum l = ~~~ (Crc.reg 0xffffffff#32 l)) := rfl
      rw [List.take_length]
      have hn : 4294967295 - (((Crc.reg 0xffffffff#32 l).toNat : Nat) : Int) = (((~~~ (Crc.reg 0xffffffff#32 l)).toNat : Nat) : Int) := by
        rw [BitVec.toNat_not]
        have := (Crc.reg 0xffffffff#32 l).isLt
        omega
      generalize Crc.reg 0xffffffff#32 l = r at *
      generalize ~~~ r = z at *
      have hrl := r.isLt
      go_wp2_with fail
      go_ret
      exact ⟨by rw [HS.out]; rfl, rfl⟩
end Go.Proofs.YtaejcejfpcjifaaDoor

namespace Go.Proofs.YtaejcejfpcjifaaDoor
open Go.RowKit

def sbytes (n : Nat) : Nat → List UInt8
  | 0 => []
  | j + 1 => sbytes n j ++ [sbyte n j]
theorem seal_sbytes (r : Crc.R) : Crc.sealOf r = sbytes r.toNat 4 := by rw [seal_bytes]; rfl
theorem sbytes_length (n : Nat) : ∀ j, (sbytes n j).length = j
  | 0 => rfl
  | j + 1 => by simp [sbytes, sbytes_length n j]

set_option maxRecDepth 100000 in
set_option maxHeartbeats 400000 in
theorem refwrap_any (b : List UInt8) (w : World) (hl : b.length ≤ 140737488351232) :
    Calls Tryd.prog 31 #[.string ⟨b.toArray⟩] w fun e w' => e = .returned (.string ⟨(Frl.wrap b).toArray⟩) ∧ Frm No w w' := by
  have hc1 := fun (W : World) (x : Int) => conv_one (P := Tryd.prog) W Tryd.underlying54 Tryd.underlying5 Tryd.underlying9 x
  by_cases hb : 1048576 < b.length
  · have hw : Hid (Frl.wrap b = []) := hid (if_pos hb)
    have hb' : (1048576 : Int) < (b.length : Int) := by omega
    clear hc1
    go_enter Tryd.func31, Tryd.ntmps31
    go_wp2_with fail
    go_ret
    exact ⟨by rw [hw.out]; rfl, Frm.refl _ _⟩
  · have hb' : ¬ (1048576 : Int) < (b.length : Int) := by omega
    have hw := Frl.wrap_eq (b := b) (by omega)
    rw [seal_sbytes] at hw
    have HW := hid hw
    clear hw
    have he := Oct.enc_le b.length
    have HSE := hid (fun w => refsum_any (Oct.enc b.length ++ b) w (by rw [List.length_append]; omega))
    have HP := hid (fun w => refput_any (b.length : Int) w)
    generalize Oct.enc b.length = en at *
    have hsl := (Crc.sum (en ++ b)).isLt
    generalize (Crc.sum (en ++ b)).toNat = n at *
    go_enter Tryd.func31, Tryd.ntmps31
    go_wp2_with (first | (go_at_call 49; refine (HP.out _).mono ?_; rintro e w1 ⟨rfl, hf1⟩) | (go_at_call 50; refine (HSE.out _).mono ?_; rintro e w2 ⟨rfl, rfl⟩))
    go_loopw [3, 4, 5] (fun s c i wr => ∃ j : Nat, j ≤ 4 ∧ i = .int .i64 (j : Int) ∧ s = .string ⟨(en ++ b ++ sbytes n j).toArray⟩ ∧ c = .int .u32 ((n / 256 ^ j : Nat) : Int) ∧ Frm No w wr) (fun _ _ i _ => 4 - (intOf i).toNat)
    case atStart => exact ⟨0, by omega, rfl, by simp [sbytes], by simp, hf1⟩
    case round =>
      obtain ⟨j, hj, rfl, rfl, rfl, hf⟩ := hrel
      by_cases hj4 : j < 4
      · have hjz : (j : Int) < 4 := by omega
        have hb2 := sbytes_length n j
        have hdl : n / 256 ^ j ≤ n := Nat.div_le_self _ _
        have HN : Hid (n / 256 ^ (j + 1) = n / 256 ^ j / 256) := hid (by rw [Nat.div_div_eq_div_mul, Nat.pow_succ])
        have HB : Hid (sbytes n (j + 1) = sbytes n j ++ [UInt8.ofNat (n / 256 ^ j)]) := hid rfl
        generalize n / 256 ^ j = m at *
        generalize sbytes n j = sb at *
        go_wp2_with fail
        refine ⟨⟨j + 1, by omega, by go_num, ?_, ?_, hf.alloc _⟩, by simp [intOf]; omega⟩
        · rw [HB.out]
          have e : UInt8.ofNat (m % 256) = UInt8.ofNat m := UInt8.toNat_inj.1 (by simp)
          rw [e]
          simp only [List.append_assoc]
        · rw [HN.out]
          first | rfl | exact congrArg (Value.int .u32) (by omega)
      · obtain rfl : j = 4 := by omega
        go_wp2_with fail
        go_ret
        exact ⟨by rw [HW.out]; rfl, hf⟩

end Go.Proofs.YtaejcejfpcjifaaDoor

namespace Go.Proofs.YtaejcejfpcjifaaDoor
open Go.RowKit

theorem open_wrap_any (b : List UInt8) (w : World) (hT : Tab w) (hl : b.length ≤ 1048576) :
    Calls Tryd.prog 33 #[.string ⟨(Frl.wrap b).toArray⟩] w fun e w' => e = .returned (.tuple #[.string ⟨b.toArray⟩, .int .i64 0]) ∧ Frm No w w' := by
  have hw := Frl.wrap_length (b := b) hl
  have he := Oct.enc_le b.length
  refine (open_any (Frl.wrap b) w hT (by omega)).mono fun e w' ⟨h, hf⟩ => ⟨?_, hf⟩
  rw [h, Frl.open_wrap hl]

theorem sum_digits : (((Crc.sum [49, 50, 51, 52, 53, 54, 55, 56, 57]).toNat : Nat) : Int) = 3421780262 := by decide +kernel

end Go.Proofs.YtaejcejfpcjifaaDoor

namespace Go.Proofs.YtaejcejfpcjifaaDoor
open Go.RowKit

namespace Spo
/-- A frame and a text of the same length that is the same outside a window. -/
theorem told {b t : List UInt8} {p k : Nat} (h : b.length ≤ 1048576) (hl : t.length = (Frl.wrap b).length) (hk : k ≤ 4)
    (hout : ∀ j (h1 : j < t.length) (h2 : j < (Frl.wrap b).length), (j < p ∨ p + k ≤ j) → t[j] = (Frl.wrap b)[j]) (hne : t ≠ Frl.wrap b) : (Frl.open_ t).2 ≠ 0 := by
  have e1 : t.take p = (Frl.wrap b).take p := by
    apply List.ext_getElem
    · simp [hl]
    · intro i h1 h2
      rw [List.getElem_take, List.getElem_take]
      rw [List.length_take] at h1
      exact hout i (by omega) (by omega) (Or.inl (by omega))
  have e2 : t.drop (p + k) = (Frl.wrap b).drop (p + k) := by
    apply List.ext_getElem
    · simp [hl]
    · intro i h1 h2
      rw [List.getElem_drop, List.getElem_drop]
      rw [List.length_drop] at h1
      exact hout _ (by omega) (by omega) (Or.inr (by omega))
  have sp : ∀ l : List UInt8, l = l.take p ++ ((l.drop p).take k ++ l.drop (p + k)) := by
    intro l
    rw [← List.drop_drop, List.take_append_drop, List.take_append_drop]
  have s1 := sp (Frl.wrap b)
  have s2 := sp t
  rw [e1, e2] at s2
  rw [s2]
  refine Frl.open_spoilt h s1 (by simp [hl]) (by rw [List.length_take]; omega) ?_
  intro he
  apply hne
  rw [s2, ← he, ← s1]

def chg (n i : Nat) : Bool := (sbytes n i).any fun x => x != 0
theorem chg_succ (n i : Nat) : chg n (i + 1) = (chg n i || sbyte n i != 0) := by simp [chg, sbytes]
theorem chg_any {n i : Nat} : chg n i = true ↔ ∃ j, j < i ∧ sbyte n j ≠ 0 := by
  induction i with
  | zero => simp [chg, sbytes]
  | succ i ih =>
    rw [chg_succ, Bool.or_eq_true, ih]
    constructor
    · rintro (⟨j, hj, h⟩ | h)
      · exact ⟨j, by omega, h⟩
      · exact ⟨i, by omega, by simpa using h⟩
    · rintro ⟨j, hj, h⟩
      by_cases hji : j < i
      · exact Or.inl ⟨j, hji, h⟩
      · obtain rfl : j = i := by omega
        exact Or.inr (by simpa using h)
theorem xor_ne {a x : UInt8} (h : x ≠ 0) : a ^^^ x ≠ a := by
  intro e
  apply h
  have := congrArg (a ^^^ ·) e
  simpa [← UInt8.xor_assoc] using this
theorem turned_same {s : List UInt8} {n p i : Nat} (h : chg n i = false) : turned s n p i = s := by
  apply List.ext_getElem (turned_length s n p i)
  intro j h1 h2
  rw [turned_at]
  have : D n p i j = 0 := by
    unfold D
    split
    · rename_i hj
      cases hz : decide (sbyte n (j - p) = 0) with
      | true => exact of_decide_eq_true hz
      | false =>
        have := (chg_any (n := n) (i := i)).2 ⟨j - p, by omega, of_decide_eq_false hz⟩
        rw [h] at this
        cases this
    · rfl
  rw [this]; simp
theorem turned_other {s : List UInt8} {n p i : Nat} (h : chg n i = true) (hp : p + i ≤ s.length) : turned s n p i ≠ s := by
  obtain ⟨j, hj, hx⟩ := chg_any.1 h
  intro e
  have hl : p + j < (turned s n p i).length := by rw [turned_length]; omega
  have h1 := turned_at s n p i (p + j) hl
  have h2 : (turned s n p i)[p + j] = s[p + j]'(by omega) := by simp only [e]
  rw [h2] at h1
  have hd : D n p i (p + j) = sbyte n j := by
    unfold D
    rw [if_pos (by omega), Nat.add_sub_cancel_left]
  rw [hd] at h1
  exact xor_ne hx h1.symm
theorem turned_told {b : List UInt8} {n p i : Nat} (h : b.length ≤ 1048576) (hi : i ≤ 4) (hp : p + i ≤ (Frl.wrap b).length) (hc : chg n i = true) : (Frl.open_ (turned (Frl.wrap b) n p i)).2 ≠ 0 := by
  refine told (p := p) (k := i) h (turned_length _ _ _ _) hi (fun j h1 h2 ho => ?_) (turned_other hc hp)
  rw [turned_at]
  have : D n p i j = 0 := if_neg (by omega)
  rw [this]; simp
theorem at_in (x L : Int) (h : 1 ≤ L) (h2 : L ≤ 1000000) : 0 ≤ (x.tmod L + L).tmod L ∧ (x.tmod L + L).tmod L < L := by
  have h1 := Int.lt_tmod_of_pos x (b := L) (by omega)
  have h3 := Int.tmod_lt_of_pos x (b := L) (by omega)
  rw [Int.tmod_eq_emod_of_nonneg (by omega)]
  have h4 := Int.emod_nonneg (x.tmod L + L) (b := L) (by omega)
  have h5 := Int.emod_lt_of_pos (x.tmod L + L) (b := L) (by omega)
  omega
end Spo
open Spo

end Go.Proofs.YtaejcejfpcjifaaDoor
