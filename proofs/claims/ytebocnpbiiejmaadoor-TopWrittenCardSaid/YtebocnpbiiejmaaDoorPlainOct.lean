/- The plain arithmetic of layer 1: a number's bytes (enc), the number at the beginning of bytes (dec); dec reads what enc writes, and reads nothing else. No program is in sight here. -/
import Derived.Lib.BitFns
namespace Go.Proofs.YtebocnpbiiejmaaDoor.Oct

/-- k bytes of a number, the high one first. -/
def be : Nat → Nat → List UInt8
  | 0, _ => []
  | k + 1, m => be k (m / 256) ++ [UInt8.ofNat m]

@[simp] theorem be_length : ∀ k m, (be k m).length = k
  | 0, _ => rfl
  | k + 1, m => by simp [be, be_length k]

theorem be_cons : ∀ j m, be (j + 1) m = UInt8.ofNat (m / 256 ^ j) :: be j m
  | 0, m => by simp [be]
  | j + 1, m => by
    rw [be, be_cons j (m / 256), be, Nat.div_div_eq_div_mul, Nat.pow_succ, Nat.mul_comm 256]
    rfl

/-- How many bytes a number has. -/
def klen (m : Nat) : Nat :=
  if m < 1 then 0 else if m < 256 then 1 else if m < 65536 then 2 else if m < 16777216 then 3 else if m < 4294967296 then 4
  else if m < 1099511627776 then 5 else if m < 281474976710656 then 6 else if m < 72057594037927936 then 7 else 8

theorem klen_le (m : Nat) (h : m ≤ 9007199254740992) : klen m ≤ 7 := by unfold klen; repeat (first | omega | split)

theorem bitLen_ge (m k : Nat) (h : 2 ^ k ≤ m) (h2 : m < 2 ^ 64) : k < Lib.bitLen m := by
  rw [Lib.bitLen_shift k m h h2]
  have h0 : m / 2 ^ k ≠ 0 := by
    have : 1 ≤ m / 2 ^ k := (Nat.le_div_iff_mul_le (Nat.two_pow_pos k)).2 (by omega)
    omega
  rw [Lib.bitLen_half _ h0 (Nat.lt_of_le_of_lt (Nat.div_le_self _ _) h2)]
  omega

theorem bitLen_klen (m : Nat) (h : m ≤ 9007199254740992) : (Lib.bitLen m + 7) / 8 = klen m := by
  have lo := fun k (hk : 2 ^ k ≤ m) => bitLen_ge m k hk (by omega)
  have hi := fun k (hk : m < 2 ^ k) (hk2 : k ≤ 64) => Lib.bitLen_le m k hk2 hk
  unfold klen
  repeat' split
  · have := hi 0 (by omega) (by omega); omega
  · have := hi 8 (by omega) (by omega); have := lo 0 (by omega); omega
  · have := hi 16 (by omega) (by omega); have := lo 8 (by omega); omega
  · have := hi 24 (by omega) (by omega); have := lo 16 (by omega); omega
  · have := hi 32 (by omega) (by omega); have := lo 24 (by omega); omega
  · have := hi 40 (by omega) (by omega); have := lo 32 (by omega); omega
  · have := hi 48 (by omega) (by omega); have := lo 40 (by omega); omega
  · have := hi 56 (by omega) (by omega); have := lo 48 (by omega); omega
  · omega

theorem bitLen_le64 (m : Nat) (h : m ≤ 9007199254740992) : Lib.bitLen m ≤ 64 := by have := bitLen_klen m h; have := klen_le m h; omega

theorem lt_klen (m : Nat) (h : m ≤ 9007199254740992) : m < 256 ^ klen m := by unfold klen; repeat (first | omega | split)
theorem klen_min (m j : Nat) (h : m ≤ 9007199254740992) (hj : m < 256 ^ j) : klen m ≤ j := by
  have h7 := klen_le m h
  rcases Nat.lt_or_ge 6 j with h6 | h6
  · omega
  · have : j = 0 ∨ j = 1 ∨ j = 2 ∨ j = 3 ∨ j = 4 ∨ j = 5 ∨ j = 6 := by omega
    rcases this with rfl | rfl | rfl | rfl | rfl | rfl | rfl <;> (unfold klen; repeat (first | omega | split))

/-- The first byte. -/
def hdr (neg : Bool) (k : Nat) : UInt8 := UInt8.ofNat ((if neg then 128 else 0) + k)

/-- A number's bytes; none of a number that is too great. -/
def enc (n : Int) : List UInt8 :=
  if n < -9007199254740992 ∨ 9007199254740992 < n then [] else hdr (decide (n < 0)) (klen n.natAbs) :: be (klen n.natAbs) n.natAbs

theorem enc_out {n : Int} (h : n < -9007199254740992 ∨ 9007199254740992 < n) : enc n = [] := if_pos h
theorem enc_in {n : Int} (h1 : -9007199254740992 ≤ n) (h2 : n ≤ 9007199254740992) : enc n = hdr (decide (n < 0)) (klen n.natAbs) :: be (klen n.natAbs) n.natAbs := if_neg (by omega)
theorem enc_ne {n : Int} (h1 : -9007199254740992 ≤ n) (h2 : n ≤ 9007199254740992) : enc n ≠ [] := by rw [enc_in h1 h2]; simp
theorem enc_nil {n : Int} : enc n = [] ↔ n < -9007199254740992 ∨ 9007199254740992 < n := by
  unfold enc; split <;> simp_all
theorem enc_le (n : Int) : (enc n).length ≤ 8 := by
  unfold enc
  split
  · simp
  · have := klen_le n.natAbs (by omega)
    simp; omega

/-- The number of bytes. -/
def val (l : List UInt8) : Nat := l.foldl (fun n b => 256 * n + b.toNat) 0

theorem val_snoc (l : List UInt8) (b : UInt8) : val (l ++ [b]) = 256 * val l + b.toNat := by simp [val]
@[simp] theorem val_nil : val [] = 0 := rfl
theorem val_be : ∀ k m, m < 256 ^ k → val (be k m) = m
  | 0, m, h => by simp at h; simp [be, h]
  | k + 1, m, h => by
    rw [be, val_snoc, val_be k (m / 256) (by rw [Nat.div_lt_iff_lt_mul (by omega)]; rw [Nat.pow_succ] at h; exact h)]
    simp
    omega

theorem val_lt (l : List UInt8) : val l < 256 ^ l.length := by
  have key : ∀ r : List UInt8, val r.reverse < 256 ^ r.length := by
    intro r
    induction r with
    | nil => simp
    | cons b r ih =>
      rw [List.reverse_cons, val_snoc, List.length_cons, Nat.pow_succ]
      have := b.toNat_lt
      omega
  have := key l.reverse
  simpa using this

theorem be_val (l : List UInt8) : be l.length (val l) = l := by
  have key : ∀ r : List UInt8, be r.length (val r.reverse) = r.reverse := by
    intro r
    induction r with
    | nil => simp [be]
    | cons b r ih =>
      rw [List.reverse_cons, val_snoc, List.length_cons, be]
      have hb := b.toNat_lt
      have e1 : (256 * val r.reverse + b.toNat) / 256 = val r.reverse := by omega
      rw [e1, ih]
      congr 2
      apply UInt8.toNat_inj.1
      simp
  have := key l.reverse
  simpa using this

theorem val_cons (b : UInt8) (l : List UInt8) : val (b :: l) = b.toNat * 256 ^ l.length + val l := by
  have key : ∀ (r : List UInt8) (x : Nat), r.foldl (fun n b => 256 * n + b.toNat) x = x * 256 ^ r.length + val r := by
    intro r
    induction r with
    | nil => intro x; simp
    | cons c r ih =>
      intro x
      have h2 := ih (256 * 0 + c.toNat)
      simp only [List.foldl_cons, List.length_cons, val] at *
      rw [ih, h2, Nat.pow_succ]
      simp only [Nat.mul_zero, Nat.zero_add, Nat.add_mul]
      have : 256 * x * 256 ^ r.length = x * (256 ^ r.length * 256) := by rw [Nat.mul_comm 256 x, Nat.mul_assoc, Nat.mul_comm 256 (256 ^ _)]
      omega
  have := key l (256 * 0 + b.toNat)
  simpa [val] using this

/-- The number at the beginning of bytes, how many bytes it has, what is wrong. -/
def dec : List UInt8 → Int × Nat × Int
  | [] => (0, 0, 3)
  | c :: r =>
    if 7 < c.toNat % 128 ∨ c.toNat = 128 then (0, 0, 2)
    else if r.length < c.toNat % 128 then (0, 0, 3)
    else if 9007199254740992 < val (r.take (c.toNat % 128)) ∨ (0 < c.toNat % 128 ∧ r.head? = some 0) then (0, 0, 2)
    else ((if 128 ≤ c.toNat then -(val (r.take (c.toNat % 128)) : Int) else (val (r.take (c.toNat % 128)) : Int)), c.toNat % 128 + 1, 0)

theorem hdr_toNat (neg : Bool) (k : Nat) (h : k ≤ 7) : (hdr neg k).toNat = (if neg then 128 else 0) + k := by
  unfold hdr
  cases neg <;> simp <;> omega

/-- What enc writes dec reads, whatever stands behind. -/
theorem dec_enc (n : Int) (h1 : -9007199254740992 ≤ n) (h2 : n ≤ 9007199254740992) (r : List UInt8) : dec (enc n ++ r) = (n, (enc n).length, 0) := by
  have hm : n.natAbs ≤ 9007199254740992 := by omega
  have h7 := klen_le n.natAbs hm
  have hlt := lt_klen n.natAbs hm
  rw [enc_in h1 h2]
  have hh := hdr_toNat (decide (n < 0)) (klen n.natAbs) h7
  have hmod : (hdr (decide (n < 0)) (klen n.natAbs)).toNat % 128 = klen n.natAbs := by rw [hh]; split <;> omega
  simp only [List.cons_append, dec, hmod]
  have hk0 : klen n.natAbs = 0 → n = 0 := by
    intro h0
    rw [h0] at hlt
    simp at hlt
    omega
  rw [if_neg (by
    rw [hh]
    split
    · rename_i hneg
      simp at hneg
      have : klen n.natAbs ≠ 0 := fun h0 => by have := hk0 h0; omega
      omega
    · omega)]
  rw [if_neg (by simp)]
  have ht : (be (klen n.natAbs) n.natAbs ++ r).take (klen n.natAbs) = be (klen n.natAbs) n.natAbs := by
    rw [List.take_append_of_le_length (by simp)]
    rw [List.take_of_length_le (by simp)]
  rw [ht, val_be _ _ hlt]
  have hhead : ¬ (0 < klen n.natAbs ∧ (be (klen n.natAbs) n.natAbs ++ r).head? = some 0) := by
    rintro ⟨hp, hz⟩
    obtain ⟨c, l, hcl⟩ : ∃ c l, be (klen n.natAbs) n.natAbs = c :: l := by
      cases hb : be (klen n.natAbs) n.natAbs with
      | nil => have := be_length (klen n.natAbs) n.natAbs; rw [hb] at this; simp at this; omega
      | cons c l => exact ⟨c, l, rfl⟩
    rw [hcl] at hz
    simp at hz
    subst hz
    have hv := val_be _ _ hlt
    have hl := be_length (klen n.natAbs) n.natAbs
    rw [hcl, val_cons] at hv
    rw [hcl] at hl
    simp at hv hl
    have := klen_min n.natAbs l.length hm (by rw [← hv]; exact val_lt l)
    omega
  rw [if_neg (by rintro (h | h); omega; exact hhead h)]
  simp only [Prod.mk.injEq, List.length_cons, be_length, and_true]
  rcases Int.lt_or_le n 0 with hneg | hneg
  · rw [if_pos (by rw [hh, if_pos (by simpa using hneg)]; omega)]; omega
  · rw [if_neg (by rw [hh, if_neg (by simp; omega)]; omega)]; omega

/-- What dec reads is what enc writes. -/
theorem dec_ok {s : List UInt8} {n : Int} {k : Nat} (h : dec s = (n, k, 0)) : -9007199254740992 ≤ n ∧ n ≤ 9007199254740992 ∧ enc n = s.take k ∧ k ≤ s.length ∧ 1 ≤ k ∧ k ≤ 8 := by
  cases s with
  | nil => simp [dec] at h
  | cons c r =>
    simp only [dec] at h
    split at h
    · simp at h
    · rename_i h1
      split at h
      · simp at h
      · rename_i h2
        split at h
        · simp at h
        · rename_i h3
          simp only [Prod.mk.injEq, and_true] at h
          obtain ⟨hn, rfl⟩ := h
          have hc := c.toNat_lt
          have hlen : (r.take (c.toNat % 128)).length = c.toNat % 128 := by simp; omega
          have hvl := val_lt (r.take (c.toNat % 128))
          rw [hlen] at hvl
          generalize hm : val (r.take (c.toNat % 128)) = m at *
          generalize hk : c.toNat % 128 = k at *
          have hmle : m ≤ 9007199254740992 := by omega
          have hkl : klen m = k := by
            have h5 := klen_min m k hmle hvl
            rcases Nat.lt_or_ge (klen m) k with h6 | h6
            · exfalso
              obtain ⟨d, r', rfl⟩ : ∃ d r', r = d :: r' := by
                cases r with
                | nil => simp at hlen; omega
                | cons d r' => exact ⟨d, r', rfl⟩
              obtain ⟨j, rfl⟩ : ∃ j, k = j + 1 := ⟨k - 1, by omega⟩
              simp only [List.take_succ_cons, val_cons] at hm
              have hd : d.toNat ≠ 0 := by
                intro hd
                apply h3
                right
                refine ⟨by omega, ?_⟩
                simp
                exact UInt8.toNat_inj.1 (by simpa using hd)
              have hl' : (r'.take j).length = j := by simp at hlen ⊢; omega
              rw [hl'] at hm
              have hlow := lt_klen m hmle
              have hp : 256 ^ klen m ≤ 256 ^ j := Nat.pow_le_pow_right (by omega) (by omega)
              have : 256 ^ j ≤ d.toNat * 256 ^ j := Nat.le_mul_of_pos_left _ (by omega)
              omega
            · omega
          refine ⟨by split at hn <;> omega, by split at hn <;> omega, ?_, by simp; omega, by omega, by omega⟩
          have hna : n.natAbs = m := by split at hn <;> omega
          rw [enc_in (by split at hn <;> omega) (by split at hn <;> omega), hna, hkl, List.take_succ_cons]
          have hbe : be k m = r.take k := by
            have := be_val (r.take k)
            rw [hlen, hm] at this
            exact this
          rw [hbe]
          congr 1
          apply UInt8.toNat_inj.1
          rw [hdr_toNat _ _ (by omega)]
          rcases Nat.lt_or_ge c.toNat 128 with h8 | h8
          · rw [if_neg (by omega)] at hn
            rw [if_neg (by simp; omega)]
            omega
          · rw [if_pos h8] at hn
            rw [if_pos (by
              simp
              have : m ≠ 0 := by
                intro h0
                subst h0
                have : k = 0 := by rw [← hkl]; rfl
                omega
              omega)]
            omega

/-- Of a number's bytes that are cut off nothing is read. -/
theorem dec_cut (n : Int) (h1 : -9007199254740992 ≤ n) (h2 : n ≤ 9007199254740992) (r : List UInt8) (m : Nat) (hm : m < (enc n).length) : dec ((enc n ++ r).take m) = (0, 0, 3) := by
  have hle : n.natAbs ≤ 9007199254740992 := by omega
  have h7 := klen_le n.natAbs hle
  have hlt := lt_klen n.natAbs hle
  have hh := hdr_toNat (decide (n < 0)) (klen n.natAbs) h7
  rw [enc_in h1 h2] at hm ⊢
  cases m with
  | zero => rfl
  | succ m =>
    simp only [List.length_cons, be_length] at hm
    rw [List.cons_append, List.take_succ_cons]
    have hmod : (hdr (decide (n < 0)) (klen n.natAbs)).toNat % 128 = klen n.natAbs := by rw [hh]; split <;> omega
    rw [dec, hmod, if_neg (by
      rw [hh]
      split <;> omega), if_pos (by simp; omega)]

/-- The reference's way to decide: by writing the number again. -/
theorem dec_ref (c : UInt8) (r : List UInt8) (n : Int) (h7 : c.toNat % 128 ≤ 7) (hne : c.toNat ≠ 128) (hlen : c.toNat % 128 ≤ r.length)
    (hn : n = if 128 ≤ c.toNat then -(val (r.take (c.toNat % 128)) : Int) else (val (r.take (c.toNat % 128)) : Int)) :
    dec (c :: r) = if enc n = (c :: r).take (c.toNat % 128 + 1) then (n, c.toNat % 128 + 1, 0) else (0, 0, 2) := by
  split
  · rename_i h
    have hin : ¬ (n < -9007199254740992 ∨ 9007199254740992 < n) := fun hh => by
      rw [enc_out hh] at h
      simp at h
    have hd := dec_enc n (by omega) (by omega) ((c :: r).drop (c.toNat % 128 + 1))
    rw [h, List.take_append_drop] at hd
    rw [hd]
    simp only [Prod.mk.injEq, and_true, true_and, List.length_take, List.length_cons]
    omega
  · rename_i h
    have hd : dec (c :: r) = if 9007199254740992 < val (r.take (c.toNat % 128)) ∨ (0 < c.toNat % 128 ∧ r.head? = some 0) then (0, 0, 2) else (n, c.toNat % 128 + 1, 0) := by
      rw [dec, if_neg (by omega), if_neg (by omega), hn]
    rw [hd]
    split
    · rfl
    · rename_i h3
      rw [if_neg h3] at hd
      exact absurd (dec_ok hd).2.2.1 h

theorem dec_err {s : List UInt8} {n : Int} {k : Nat} {e : Int} (h : dec s = (n, k, e)) (he : e ≠ 0) : n = 0 ∧ k = 0 ∧ (e = 2 ∨ e = 3) := by
  cases s with
  | nil => simp [dec] at h; omega
  | cons c r =>
    simp only [dec] at h
    repeat' split at h
    all_goals simp only [Prod.mk.injEq] at h; omega

end Go.Proofs.YtebocnpbiiejmaaDoor.Oct
