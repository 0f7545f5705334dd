/- The plain laws of marks: which bits count, and their eight bytes. No program is in sight here. -/
import Derived.Laws.Cover2
import Derived.IntWalk
namespace Go.Proofs.YtebocnpbiiejmaaDoor
namespace Mk
/-- Bits of a number that is none. -/
def nanB (n : Nat) : Bool := decide (9218868437227405312 < n % 9223372036854775808)
/-- The bits as which a mark counts. -/
def canon (n : Nat) : Nat := if nanB n then 9221120237041090561 else if n % 9223372036854775808 = 0 then 0 else n
theorem canon_lt {n : Nat} (h : n < 18446744073709551616) : canon n < 18446744073709551616 := by
  unfold canon
  split
  · omega
  · split <;> omega
theorem canon_canon (n : Nat) : canon (canon n) = canon n := by
  unfold canon
  by_cases h : nanB n = true
  · simp only [h, if_true]
    decide
  · simp only [h, if_false, Bool.false_eq_true]
    by_cases h2 : n % 9223372036854775808 = 0
    · simp only [h2, if_true]
      decide
    · simp only [h2, h, if_false, Bool.false_eq_true]
theorem sw : Ieee.double.signWeight = 9223372036854775808 := by decide
theorem bw : Ieee.double.binade = 4503599627370496 := by decide
theorem iw : Ieee.double.infRung = 9218868437227405312 := by decide
theorem order_eq (n m : Nat) : FloatKind.f64.format.order n m = Ieee.Datum.order (Ieee.double.read n) (Ieee.double.read m) := rfl
theorem compare_self (i : Int) : compare i i = Ordering.eq := by simp
theorem datum_self (d : Ieee.Datum) : (Ieee.Datum.order d d == some .eq) = !d.isNaN := by
  cases d with
  | number s m p => simp [Ieee.Datum.order, Ieee.Datum.isNaN]
  | infinity s => simp [Ieee.Datum.order, Ieee.Datum.isNaN]
  | nan s t => simp [Ieee.Datum.order, Ieee.Datum.isNaN]
theorem read_nan (n : Nat) : (Ieee.double.read n).isNaN = nanB n := by
  unfold Ieee.Format.read nanB
  simp only [sw, bw, iw]
  split
  · simp only [Ieee.Datum.isNaN]
    symm; simp; omega
  · split
    · simp only [Ieee.Datum.isNaN]
      symm; simp; omega
    · split
      · simp only [Ieee.Datum.isNaN]
        symm; simp; omega
      · simp only [Ieee.Datum.isNaN]
        symm; simp; omega
theorem order_self (n : Nat) : (FloatKind.f64.format.order n n == some .eq) = !nanB n := by
  rw [order_eq, datum_self, read_nan]
theorem order_self_ne (n : Nat) : (FloatKind.f64.format.order n n != some .eq) = nanB n := by
  have := order_self n
  unfold bne
  rw [this, Bool.not_not]
theorem read_zero : Ieee.double.read 0 = .number false 0 Ieee.double.leastPlace := by decide
theorem signed_zero (s : Bool) (k : Nat) : Ieee.signed s 0 k = 0 := by cases s <;> simp [Ieee.signed]
theorem signed_ne (s : Bool) (m k : Nat) (h : m ≠ 0) : Ieee.signed s m k ≠ 0 := by
  have h1 : m <<< k ≠ 0 := by
    rw [Nat.shiftLeft_eq]
    exact Nat.mul_ne_zero h (Nat.ne_of_gt (Nat.two_pow_pos k))
  cases s <;> simp [Ieee.signed] <;> omega
theorem order_zero (s : Bool) (m : Nat) (i j : Int) : (Ieee.Datum.order (.number s m i) (.number false 0 j) == some .eq) = decide (m = 0) := by
  simp only [Ieee.Datum.order, signed_zero]
  by_cases h : m = 0
  · subst h
    simp [signed_zero]
  · have := signed_ne s m (i - min i j).toNat h
    generalize Ieee.signed s m (i - min i j).toNat = x at *
    have hc : compare x 0 ≠ .eq := fun e => this (Int.compare_eq_eq.1 e)
    simp [h, hc]
theorem read_iszero (n : Nat) : (Ieee.Datum.order (Ieee.double.read n) (Ieee.double.read 0) == some .eq) = decide (n % 9223372036854775808 = 0) := by
  rw [read_zero]
  unfold Ieee.Format.read
  simp only [sw, bw, iw]
  split
  · exact order_zero _ _ _ _
  · split
    · rw [order_zero, Bool.eq_iff_iff]
      simp only [decide_eq_true_eq]
      omega
    · split
      · symm
        simp [Ieee.Datum.order]
        split <;> simp <;> omega
      · symm
        simp [Ieee.Datum.order]
        omega
theorem order_iszero (n : Nat) : (FloatKind.f64.format.order n 0 == some .eq) = decide (n % 9223372036854775808 = 0) := by rw [order_eq, read_iszero]
def be8 (n : Nat) : List UInt8 := (List.range 8).map fun i => UInt8.ofNat (n / 256 ^ (7 - i))
def val8 (l : List UInt8) : Nat := l.foldl (fun a b => 256 * a + b.toNat) 0
def put (n : Nat) : List UInt8 := be8 (canon n)
def get (s : List UInt8) : Nat × Int := if s.length < 8 then (0, 3) else if 8 < s.length then (0, 4) else if canon (val8 s) = val8 s then (val8 s, 0) else (0, 2)
theorem be8_length (n : Nat) : (be8 n).length = 8 := by simp [be8]
theorem put_length (n : Nat) : (put n).length = 8 := be8_length _
theorem val8_bound : ∀ (l : List UInt8) (a : Nat), l.foldl (fun a b => 256 * a + b.toNat) a < (a + 1) * 256 ^ l.length
  | [], a => by simp
  | b :: l, a => by
    have h := val8_bound l (256 * a + b.toNat)
    have hb := b.toNat_lt
    rw [List.foldl_cons, List.length_cons, Nat.pow_succ]
    have h1 : 256 * a + b.toNat + 1 ≤ (a + 1) * 256 := by omega
    calc _ < (256 * a + b.toNat + 1) * 256 ^ l.length := h
      _ ≤ (a + 1) * 256 * 256 ^ l.length := Nat.mul_le_mul_right _ h1
      _ = (a + 1) * (256 ^ l.length * 256) := by rw [Nat.mul_assoc, Nat.mul_comm 256]
theorem val8_lt {l : List UInt8} (h : l.length = 8) : val8 l < 18446744073709551616 := by
  have := val8_bound l 0
  rw [h] at this
  exact this
theorem val8_be8 {n : Nat} (h : n < 18446744073709551616) : val8 (be8 n) = n := by
  unfold val8 be8
  have hr : List.range 8 = [0, 1, 2, 3, 4, 5, 6, 7] := by decide
  rw [hr]
  simp only [List.map_cons, List.map_nil, List.foldl_cons, List.foldl_nil, UInt8.toNat_ofNat']
  simp only [Nat.reducePow, Nat.reduceSub, Nat.pow_zero, Nat.div_one]
  omega
theorem be8_val8 {l : List UInt8} (h : l.length = 8) : be8 (val8 l) = l := by
  match l, h with
  | [a, b, c, d, e, f, g, i], _ =>
    have ha := a.toNat_lt; have hb := b.toNat_lt; have hc := c.toNat_lt; have hd := d.toNat_lt; have he := e.toNat_lt; have hf := f.toNat_lt; have hg := g.toNat_lt; have hi := i.toNat_lt
    have hr : List.range 8 = [0, 1, 2, 3, 4, 5, 6, 7] := by decide
    unfold val8 be8
    rw [hr]
    simp only [List.map_cons, List.map_nil, List.foldl_cons, List.foldl_nil, Nat.reducePow, Nat.reduceSub, Nat.pow_zero, Nat.div_one, List.cons.injEq, and_true]
    refine ⟨?_, ?_, ?_, ?_, ?_, ?_, ?_, ?_⟩ <;> (apply UInt8.toNat_inj.1; rw [UInt8.toNat_ofNat']; omega)
theorem put_get (n : Nat) (h : n < 18446744073709551616) : get (put n) = (canon n, 0) := by
  unfold get
  have hl := put_length n
  rw [if_neg (by omega), if_neg (by omega)]
  have : val8 (put n) = canon n := val8_be8 (canon_lt h)
  rw [this, if_pos (canon_canon n)]
theorem get_ok {s : List UInt8} {n : Nat} (h : get s = (n, 0)) : s = put n ∧ n < 18446744073709551616 ∧ canon n = n := by
  unfold get at h
  split at h
  · simp at h
  · split at h
    · simp at h
    · split at h
      · rename_i h1 h2 h3
        simp only [Prod.mk.injEq, and_true] at h
        subst h
        have hl : s.length = 8 := by omega
        exact ⟨by unfold put; rw [h3, be8_val8 hl], val8_lt hl, h3⟩
      · simp at h
theorem get_none {s : List UInt8} {n : Nat} {e : Int} (h : get s = (n, e)) (he : e ≠ 0) : n = 0 := by
  unfold get at h
  split at h
  · simp at h; exact h.1.symm
  · split at h
    · simp at h; exact h.1.symm
    · split at h
      · simp at h; exact absurd h.2.symm he
      · simp at h; exact h.1.symm
theorem be8_inj {a b : Nat} (ha : a < 18446744073709551616) (hb : b < 18446744073709551616) (h : be8 a = be8 b) : a = b := by rw [← val8_be8 ha, ← val8_be8 hb, h]
/-- The document's way: by masks. -/
theorem mask_hi (n : Nat) : n &&& 9218868437227405312 = (n / 4503599627370496 % 2048) * 4503599627370496 := by
  apply Nat.eq_of_testBit_eq
  intro i
  have e1 : (9218868437227405312 : Nat) = (2 ^ 11 - 1) * 2 ^ 52 := by decide
  have e2 : n / 4503599627370496 % 2048 * 4503599627370496 = (n / 2 ^ 52 % 2 ^ 11) * 2 ^ 52 := rfl
  rw [e2, e1, Nat.testBit_and, Nat.testBit_mul_two_pow, Nat.testBit_mul_two_pow, Nat.testBit_mod_two_pow, Nat.testBit_div_two_pow, Nat.testBit_two_pow_sub_one]
  by_cases h : 52 ≤ i
  · have : i - 52 + 52 = i := by omega
    simp only [h, decide_true, Bool.true_and, this]
    exact Bool.and_comm _ _
  · simp [h]
theorem mask_lo (n : Nat) : n &&& 4503599627370495 = n % 4503599627370496 := Nat.and_two_pow_sub_one_eq_mod n 52
theorem nan_masks (n : Nat) : (decide (n &&& 9218868437227405312 = 9218868437227405312) && decide (n &&& 4503599627370495 ≠ 0)) = nanB n := by
  rw [mask_hi, mask_lo]
  unfold nanB
  rw [Bool.eq_iff_iff]
  simp only [Bool.and_eq_true, decide_eq_true_eq]
  omega
theorem canon_ref (n : Nat) (h : n < 18446744073709551616) (hn : nanB n = false) : canon n = if n = 9223372036854775808 then 0 else n := by
  unfold canon
  rw [hn]
  simp only [Bool.false_eq_true, if_false]
  split
  · split
    · rfl
    · omega
  · rw [if_neg (by omega)]
end Mk
end Go.Proofs.YtebocnpbiiejmaaDoor
