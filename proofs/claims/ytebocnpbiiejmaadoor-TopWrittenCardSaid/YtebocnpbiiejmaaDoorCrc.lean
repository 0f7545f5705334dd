/- The register of the sums of frames: the table's way and the bit's way are one; what one to four bytes in a row that differ make of it. No program is in sight here. -/
namespace Go.Proofs.YtebocnpbiiejmaaDoor
namespace Crc
abbrev R := BitVec 32
def P : R := 3988292384#32
/-- A step of the register. -/
def T (r : R) : R := (r >>> 1) ^^^ (if r.getLsbD 0 then P else 0#32)
theorem T_xor (a b : R) : T (a ^^^ b) = T a ^^^ T b := by
  unfold T
  rw [BitVec.ushiftRight_xor_distrib, BitVec.getLsbD_xor]
  cases a.getLsbD 0 <;> cases b.getLsbD 0 <;> simp
  · rw [BitVec.xor_assoc]
  · rw [BitVec.xor_assoc, BitVec.xor_assoc, BitVec.xor_comm P]
  · rw [BitVec.xor_assoc, BitVec.xor_comm P, BitVec.xor_assoc, BitVec.xor_self, BitVec.xor_zero]
theorem T_zero : T 0#32 = 0#32 := by decide
theorem T_eq_zero {r : R} (h : T r = 0#32) : r = 0#32 := by
  unfold T at h
  have h0 : r.getLsbD 0 = false := by
    cases hb : r.getLsbD 0 with
    | false => rfl
    | true =>
      exfalso
      rw [hb, if_pos rfl] at h
      have := congrArg (fun x : R => x.getLsbD 31) h
      simp [P] at this
  rw [h0] at h
  simp at h
  apply BitVec.eq_of_getLsbD_eq
  intro i hi
  cases i with
  | zero => rw [h0]; simp
  | succ i =>
    have := congrArg (fun x : R => x.getLsbD i) h
    simp at this
    rw [Nat.add_comm]
    simpa using this
theorem T_inj {a b : R} (h : T a = T b) : a = b := by
  have : T (a ^^^ b) = 0#32 := by rw [T_xor, h, BitVec.xor_self]
  have := T_eq_zero this
  exact BitVec.xor_eq_zero_iff.1 this
theorem T_even {x : R} (h : x.toNat < 2147483648) : T (x <<< 1) = x := by
  unfold T
  rw [show (x <<< 1).getLsbD 0 = false by simp]
  simp only [Bool.false_eq_true, if_false, BitVec.xor_zero]
  apply BitVec.eq_of_toNat_eq
  simp [Nat.shiftLeft_eq, Nat.shiftRight_eq_div_pow]
  omega

def Tn : Nat → R → R
  | 0, r => r
  | n + 1, r => Tn n (T r)
theorem Tn_xor : ∀ n (a b : R), Tn n (a ^^^ b) = Tn n a ^^^ Tn n b
  | 0, _, _ => rfl
  | n + 1, a, b => by rw [Tn, T_xor, Tn_xor n]; rfl
theorem Tn_zero : ∀ n, Tn n 0#32 = 0#32
  | 0 => rfl
  | n + 1 => by rw [Tn, T_zero, Tn_zero n]
theorem Tn_inj : ∀ n {a b : R}, Tn n a = Tn n b → a = b
  | 0, _, _, h => h
  | n + 1, _, _, h => T_inj (Tn_inj n h)
theorem Tn_eq_zero {n : Nat} {a : R} (h : Tn n a = 0#32) : a = 0#32 := Tn_inj n (h.trans (Tn_zero n).symm)
theorem Tn_add : ∀ m n (a : R), Tn (m + n) a = Tn n (Tn m a)
  | 0, n, a => by rw [Nat.zero_add]; rfl
  | m + 1, n, a => by rw [show m + 1 + n = (m + n) + 1 by omega, Tn, Tn_add m n]; rfl
theorem Tn_shl : ∀ n {x : R}, x.toNat < 2 ^ (32 - n) → n ≤ 32 → Tn n (x <<< n) = x
  | 0, x, _, _ => by simp [Tn]
  | n + 1, x, h, hn => by
    have h2 : x.toNat * 2 ^ n < 2147483648 := by
      have : x.toNat * 2 ^ n < 2 ^ (32 - (n + 1)) * 2 ^ n := Nat.mul_lt_mul_of_pos_right h (Nat.two_pow_pos n)
      rw [← Nat.pow_add, show 32 - (n + 1) + n = 31 by omega] at this
      exact this
    have h3 : (x <<< n).toNat < 2147483648 := by
      rw [BitVec.toNat_shiftLeft, Nat.shiftLeft_eq]
      exact Nat.lt_of_le_of_lt (Nat.mod_le _ _) h2
    rw [Tn, BitVec.shiftLeft_add, T_even h3]
    exact Tn_shl n (Nat.lt_of_lt_of_le h (Nat.pow_le_pow_right (by omega) (by omega))) (by omega)

/-- The table. -/
def H : List R := [0x00000000#32, 0x1db71064#32, 0x3b6e20c8#32, 0x26d930ac#32, 0x76dc4190#32, 0x6b6b51f4#32, 0x4db26158#32, 0x5005713c#32,
  0xedb88320#32, 0xf00f9344#32, 0xd6d6a3e8#32, 0xcb61b38c#32, 0x9b64c2b0#32, 0x86d3d2d4#32, 0xa00ae278#32, 0xbdbdf21c#32]
def half (r : R) : R := r >>> 4 ^^^ H.getD (r.toNat % 16) 0#32
theorem H_eq : ∀ n : Fin 16, H.getD n.val 0#32 = Tn 4 (BitVec.ofNat 32 n.val) := by decide
theorem split4 (r : R) : r = (r >>> 4) <<< 4 ^^^ BitVec.ofNat 32 (r.toNat % 16) := by
  apply BitVec.eq_of_getLsbD_eq
  intro i hi
  have e : (BitVec.ofNat 32 (r.toNat % 16)).getLsbD i = (decide (i < 4) && r.getLsbD i) := by
    rw [BitVec.getLsbD_ofNat, show (16 : Nat) = 2 ^ 4 by rfl, Nat.testBit_mod_two_pow, decide_eq_true hi, Bool.true_and]
    rfl
  rw [BitVec.getLsbD_xor, e]
  simp only [BitVec.getLsbD_shiftLeft, BitVec.getLsbD_ushiftRight]
  by_cases h4 : i < 4
  · simp [h4]
  · simp [h4, hi]
    congr 1
    omega
theorem half_eq (r : R) : half r = Tn 4 r := by
  have hr := split4 r
  have h1 : (r >>> 4).toNat < 2 ^ (32 - 4) := by
    rw [BitVec.toNat_ushiftRight, Nat.shiftRight_eq_div_pow]
    have := r.isLt
    omega
  have h2 : Tn 4 r = Tn 4 ((r >>> 4) <<< 4 ^^^ BitVec.ofNat 32 (r.toNat % 16)) := congrArg _ hr
  rw [h2, Tn_xor, Tn_shl 4 h1 (by omega), half, ← H_eq ⟨r.toNat % 16, Nat.mod_lt _ (by omega)⟩]

def byte (b : UInt8) : R := BitVec.ofNat 32 b.toNat
/-- The register behind a byte, behind bytes. -/
def feed (r : R) (b : UInt8) : R := Tn 8 (r ^^^ byte b)
def reg (r : R) (l : List UInt8) : R := l.foldl feed r
theorem feed_half (r : R) (b : UInt8) : half (half (r ^^^ byte b)) = feed r b := by
  rw [half_eq, half_eq, ← Tn_add]; rfl

/-- The reference's way: bit by bit. -/
def bit (b : UInt8) (k : Nat) : R := BitVec.ofNat 32 (b.toNat / 2 ^ k % 2)
theorem low_bits (b k : Nat) : BitVec.ofNat 32 (b % 2 ^ (k + 1)) = BitVec.ofNat 32 (b % 2 ^ k) ^^^ (BitVec.ofNat 32 (b / 2 ^ k % 2)) <<< k := by
  apply BitVec.eq_of_getLsbD_eq
  intro i hi
  simp only [BitVec.getLsbD_xor, BitVec.getLsbD_shiftLeft, BitVec.getLsbD_ofNat, hi, decide_true, Bool.true_and, Nat.testBit_mod_two_pow]
  by_cases h1 : i < k
  · simp [h1, show i < k + 1 by omega]
  · by_cases h2 : i = k
    · subst h2
      simp [Nat.testBit, Nat.shiftRight_eq_div_pow, Nat.and_comm 1, Nat.and_one_is_mod]
    · have h3 : ¬ i < k + 1 := by omega
      have h4 : (b / 2 ^ k % 2).testBit (i - k) = false := Nat.testBit_lt_two_pow (Nat.lt_of_lt_of_le (Nat.mod_lt _ (by omega)) (by have := Nat.pow_le_pow_right (n := 2) (by omega) (show 1 ≤ i - k by omega); omega))
      simp [h1, h3, h4]
/-- What the bits below k make of the register. -/
def lows (r : R) (b : UInt8) (k : Nat) : R := Tn k (r ^^^ BitVec.ofNat 32 (b.toNat % 2 ^ k))
theorem Tn_T : ∀ n (r : R), T (Tn n r) = Tn (n + 1) r
  | 0, _ => rfl
  | n + 1, r => by rw [Tn, Tn_T n]; rfl
theorem lows_succ (r : R) (b : UInt8) (k : Nat) (h : k < 32) : lows r b (k + 1) = T (lows r b k ^^^ bit b k) := by
  have h1 : (bit b k).toNat < 2 ^ (32 - k) := by
    unfold bit
    have : b.toNat / 2 ^ k % 2 < 2 := Nat.mod_lt _ (by omega)
    have h2 : 2 ^ 1 ≤ 2 ^ (32 - k) := Nat.pow_le_pow_right (by omega) (by omega)
    rw [BitVec.toNat_ofNat]
    have := Nat.mod_le (b.toNat / 2 ^ k % 2) (2 ^ 32)
    omega
  have h2 : bit b k = Tn k (bit b k <<< k) := (Tn_shl k h1 (by omega)).symm
  have h3 : lows r b k ^^^ bit b k = Tn k (r ^^^ BitVec.ofNat 32 (b.toNat % 2 ^ k) ^^^ bit b k <<< k) := by
    rw [Tn_xor k _ (bit b k <<< k), ← h2]; rfl
  rw [h3, Tn_T, lows, low_bits, BitVec.xor_assoc]
  rfl
theorem lows_zero (r : R) (b : UInt8) : lows r b 0 = r := by simp [lows, Tn, Nat.mod_one]
theorem lows_all (r : R) (b : UInt8) : lows r b 8 = feed r b := by
  have : b.toNat % 2 ^ 8 = b.toNat := Nat.mod_eq_of_lt b.toNat_lt
  rw [lows, this]; rfl

/-! Bytes that are turned. -/
theorem reg_append (r : R) (l m : List UInt8) : reg r (l ++ m) = reg (reg r l) m := List.foldl_append
theorem feed_inj {a b : R} {c : UInt8} (h : feed a c = feed b c) : a = b := by
  have h1 := Tn_inj 8 h
  have h2 := congrArg (· ^^^ byte c) h1
  simpa [BitVec.xor_assoc] using h2
theorem reg_inj : ∀ (l : List UInt8) {a b : R}, reg a l = reg b l → a = b
  | [], _, _, h => h
  | c :: l, _, _, h => feed_inj (reg_inj l (by simpa [reg] using h))
/-- The number of bytes, the low one first. -/
def le : List UInt8 → R
  | [] => 0#32
  | b :: l => byte b ^^^ (le l) <<< 8
theorem byte_lt (b : UInt8) : (byte b).toNat < 256 := by
  unfold byte
  rw [BitVec.toNat_ofNat]
  have := b.toNat_lt
  omega
theorem byte_inj {a b : UInt8} (h : byte a = byte b) : a = b := by
  have h1 := congrArg BitVec.toNat h
  unfold byte at h1
  rw [BitVec.toNat_ofNat, BitVec.toNat_ofNat] at h1
  have := a.toNat_lt
  have := b.toNat_lt
  apply UInt8.toNat_inj.1
  omega
theorem le_lt : ∀ (l : List UInt8), l.length ≤ 4 → (le l).toNat < 2 ^ (8 * l.length)
  | [], _ => by simp [le]
  | b :: l, h => by
    have h1 := le_lt l (by simp at h; omega)
    have h2 := byte_lt b
    rw [le, BitVec.toNat_xor]
    refine Nat.xor_lt_two_pow (Nat.lt_of_lt_of_le h2 ?_) ?_
    · rw [show (256 : Nat) = 2 ^ 8 by rfl]; exact Nat.pow_le_pow_right (by omega) (by simp; omega)
    · rw [BitVec.toNat_shiftLeft, Nat.shiftLeft_eq]
      refine Nat.lt_of_le_of_lt (Nat.mod_le _ _) ?_
      rw [List.length_cons, Nat.mul_add, Nat.pow_add]
      exact Nat.mul_lt_mul_of_pos_right h1 (by decide)
theorem reg_le : ∀ (l : List UInt8) (r : R), l.length ≤ 4 → reg r l = Tn (8 * l.length) (r ^^^ le l)
  | [], r, _ => by simp [reg, le, Tn]
  | b :: l, r, h => by
    have h4 : l.length ≤ 3 := by simp at h; omega
    have h1 := le_lt l (by omega)
    have h5 : (le l).toNat < 2 ^ (32 - 8) := Nat.lt_of_lt_of_le h1 (Nat.pow_le_pow_right (by omega) (by omega))
    have h2 : reg r (b :: l) = reg (feed r b) l := rfl
    rw [h2, reg_le l _ (by omega), List.length_cons, show 8 * (l.length + 1) = 8 + 8 * l.length by omega, Tn_add, le, ← BitVec.xor_assoc, Tn_xor 8 _ (le l <<< 8), Tn_shl 8 h5 (by omega)]
    rfl
theorem le_inj : ∀ (l m : List UInt8), l.length = m.length → l.length ≤ 4 → le l = le m → l = m
  | [], [], _, _, _ => rfl
  | a :: l, b :: m, hl, h4, h => by
    have h8 := congrArg (fun x : R => x &&& 255#32) h
    have ka : ∀ (c : UInt8) (x : R), (byte c ^^^ x <<< 8) &&& 255#32 = byte c := by
      intro c x
      apply BitVec.eq_of_getLsbD_eq
      intro i hi
      have hc : (byte c).getLsbD i = (decide (i < 8) && (byte c).getLsbD i) := by
        by_cases h : i < 8
        · simp [h]
        · have : (byte c).getLsbD i = false := Nat.testBit_lt_two_pow (Nat.lt_of_lt_of_le (byte_lt c) (by rw [show (256 : Nat) = 2 ^ 8 by rfl]; exact Nat.pow_le_pow_right (by omega) (by omega)))
          simp [this]
      have h255 : (255#32).getLsbD i = decide (i < 8) := by
        show (255#32).toNat.testBit i = _
        rw [show (255#32).toNat = 2 ^ 8 - 1 by rfl, Nat.testBit_two_pow_sub_one]
      rw [BitVec.getLsbD_and, BitVec.getLsbD_xor, h255, BitVec.getLsbD_shiftLeft]
      by_cases h : i < 8
      · simp [h]
      · rw [hc]; simp [h]
    simp only [le, ka] at h8
    have hab := byte_inj h8
    subst hab
    have hl3 : l.length ≤ 3 := by simp at h4; omega
    simp at hl
    have h9 : le l <<< 8 = le m <<< 8 := by
      have := congrArg (byte a ^^^ ·) h
      simpa [le, ← BitVec.xor_assoc] using this
    have k := fun (l : List UInt8) (hl : l.length ≤ 3) => Tn_shl 8 (x := le l) (Nat.lt_of_lt_of_le (le_lt l (by omega)) (Nat.pow_le_pow_right (by omega) (by omega))) (by omega)
    have h10 := congrArg (Tn 8) h9
    rw [k l hl3, k m (by omega)] at h10
    rw [le_inj l m hl (by omega) h10]
/-- A window of at most four bytes that differ is told. -/
theorem reg_window (r : R) (p x y q : List UInt8) (hl : x.length = y.length) (h4 : x.length ≤ 4) (h : reg r (p ++ (x ++ q)) = reg r (p ++ (y ++ q))) : x = y := by
  rw [reg_append, reg_append, reg_append, reg_append] at h
  have h1 := reg_inj q h
  rw [reg_le x _ h4, reg_le y _ (by omega), hl] at h1
  have h2 := Tn_inj _ h1
  have h3 := congrArg (reg r p ^^^ ·) h2
  simp [← BitVec.xor_assoc] at h3
  exact le_inj x y hl h4 h3

/-- The sum, its four bytes. -/
def sum (l : List UInt8) : R := ~~~ (reg 0xffffffff#32 l)
def sealOf (r : R) : List UInt8 := [UInt8.ofNat r.toNat, UInt8.ofNat (r.toNat / 256), UInt8.ofNat (r.toNat / 65536), UInt8.ofNat (r.toNat / 16777216)]
theorem le_seal (r : R) : le (sealOf r) = r := by
  apply BitVec.eq_of_getLsbD_eq
  intro i hi
  have hb : ∀ n j, (byte (UInt8.ofNat n)).getLsbD j = (decide (j < 8) && n.testBit j) := by
    intro n j
    unfold byte
    by_cases hj : j < 32
    · rw [BitVec.getLsbD_ofNat, decide_eq_true hj, Bool.true_and, UInt8.toNat_ofNat', Nat.testBit_mod_two_pow]
    · rw [BitVec.getLsbD_of_ge _ _ (by omega), decide_eq_false (by omega)]; rfl
  simp only [sealOf, le, BitVec.getLsbD_xor, BitVec.getLsbD_shiftLeft, hb]
  have hs : ∀ k j, (r.toNat / 2 ^ k).testBit j = r.getLsbD (k + j) := by
    intro k j
    rw [← Nat.shiftRight_eq_div_pow, Nat.testBit_shiftRight]; rfl
  have s0 : ∀ j, r.toNat.testBit j = r.getLsbD j := fun _ => rfl
  have s1 := hs 8
  have s2 := hs 16
  have s3 := hs 24
  simp only [Nat.reducePow] at s1 s2 s3
  simp only [s0, s1, s2, s3]
  by_cases h1 : i < 8
  · simp [h1]
  · by_cases h2 : i < 16
    · simp [h1, hi, show i - 8 < 8 by omega, show 8 + (i - 8) = i by omega, show i - 8 < 32 by omega]
    · by_cases h3 : i < 24
      · simp [h1, hi, show ¬ i - 8 < 8 by omega, show i - 8 - 8 < 8 by omega, show 16 + (i - 8 - 8) = i by omega, show i - 8 < 32 by omega, show i - 8 - 8 < 32 by omega]
      · simp [h1, hi, show ¬ i - 8 < 8 by omega, show ¬ i - 8 - 8 < 8 by omega, show i - 8 - 8 - 8 < 8 by omega, show 24 + (i - 8 - 8 - 8) = i by omega, show i - 8 < 32 by omega, show i - 8 - 8 < 32 by omega, show i - 8 - 8 - 8 < 32 by omega]
/-- Behind its seal a text's register is always the same, and behind nothing else. -/
theorem reg_sealed (m : List UInt8) (s : List UInt8) (h : s.length = 4) : reg 0xffffffff#32 (m ++ s) = Tn 32 0xffffffff#32 ↔ s = sealOf (sum m) := by
  rw [reg_append, reg_le s _ (by omega), h]
  constructor
  · intro h1
    have h2 := Tn_inj 32 h1
    have h3 : le s = sum m := by
      have := congrArg (reg 0xffffffff#32 m ^^^ ·) h2
      simp only [← BitVec.xor_assoc, BitVec.xor_self, BitVec.zero_xor] at this
      rw [this, sum, show (0xffffffff#32 : R) = BitVec.allOnes 32 by rfl, BitVec.xor_allOnes]
    exact le_inj s (sealOf (sum m)) (by rw [h]; rfl) (by omega) (by rw [le_seal, h3])
  · rintro rfl
    rw [le_seal, sum, ← BitVec.xor_allOnes, show (0xffffffff#32 : R) = BitVec.allOnes 32 by rfl, ← BitVec.xor_assoc, BitVec.xor_self, BitVec.zero_xor]
end Crc
end Go.Proofs.YtebocnpbiiejmaaDoor
