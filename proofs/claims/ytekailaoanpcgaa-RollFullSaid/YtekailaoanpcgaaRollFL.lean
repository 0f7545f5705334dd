/- As many members and classes as there may be, and one more. No program is in sight here. -/
import Derived.Test.YtekailaoanpcgaaRollLaw
namespace Go.Proofs.Ytekailaoanpcgaa
namespace Roll
def n1 (i : Nat) : B := [UInt8.ofNat (97 + i / 26), UInt8.ofNat (97 + i % 26), 120]
def n2 (i : Nat) : B := [99, UInt8.ofNat (97 + i / 26), UInt8.ofNat (97 + i % 26)]
theorem ofNat_toNat (a : Nat) (h : a < 26) : (UInt8.ofNat (97 + a)).toNat = 97 + a := by
  simp
  omega
theorem u8_inj {a b : Nat} (ha : a < 26) (hb : b < 26) (h : UInt8.ofNat (97 + a) = UInt8.ofNat (97 + b)) : a = b := by
  have := congrArg UInt8.toNat h
  rw [ofNat_toNat a ha, ofNat_toNat b hb] at this
  omega
theorem n1_inj {i j : Nat} (hi : i < 676) (hj : j < 676) (h : n1 i = n1 j) : i = j := by
  unfold n1 at h
  simp only [List.cons.injEq, and_true] at h
  have h1 := u8_inj (by omega) (by omega) h.1
  have h2 := u8_inj (by omega) (by omega) h.2
  omega
theorem n2_inj {i j : Nat} (hi : i < 676) (hj : j < 676) (h : n2 i = n2 j) : i = j := by
  unfold n2 at h
  simp only [List.cons.injEq, and_true, true_and] at h
  have h1 := u8_inj (by omega) (by omega) h.1
  have h2 := u8_inj (by omega) (by omega) h.2
  omega
theorem letter_of (a : Nat) (h : a < 26) : Cmd.letter (UInt8.ofNat (97 + a)) = true := by
  unfold Cmd.letter
  rw [ofNat_toNat a h]
  simp
  omega
theorem gn3 {a b c : UInt8} (ha : Cmd.letter a = true) (hb : Cmd.letter b = true) (hc : Cmd.letter c = true) : Cmd.gn [a, b, c] = true := by
  simp [Cmd.gn, Cmd.inName, ha, hb, hc]
theorem n1_good {i : Nat} (hi : i < 676) : Cmd.gn (n1 i) = true := gn3 (letter_of (i / 26) (by omega)) (letter_of (i % 26) (by omega)) (by decide)
theorem n2_good {i : Nat} (hi : i < 676) : Cmd.gn (n2 i) = true := gn3 (by decide) (letter_of (i / 26) (by omega)) (letter_of (i % 26) (by omega))
/-- i members were enrolled. -/
structure Fu1 (R : Rl) (i : Nat) : Prop where
  inv : Inv R
  len : R.mems.length = min i 256
  nm : ∀ m ∈ R.mems, ∃ j, j < min i 256 ∧ m.name = n1 j
  cl : R.clss = []
  te : 1 ≤ i → ∃ m, m ∈ R.mems ∧ m.name = n1 0 ∧ m.role = 2
theorem fu1_nil : Fu1 nil 0 := ⟨inv_nil, by simp [nil], by simp [nil], rfl, by omega⟩
theorem Fu1.not {R : Rl} {i : Nat} (h : Fu1 R i) (hi : i < 676) : has Mem.name R.mems (n1 i) = false := by
  rw [has_not]
  intro m hm e
  obtain ⟨j, hj, hj2⟩ := h.nm m hm
  have := n1_inj (by omega) hi (hj2.symm.trans e)
  omega
theorem Fu1.next {R : Rl} {i : Nat} (h : Fu1 R i) (hi : i < 256) : ∃ R2, enrol R (n1 i) 2 = (R2, 0) ∧ Fu1 R2 (i + 1) := by
  have hn := h.not (by omega)
  have hl := h.len
  have he : enrol R (n1 i) 2 = (⟨ins Mem.name R.mems (n1 i) ⟨n1 i, 2, 4096⟩, R.clss⟩, 0) := by
    unfold enrol
    rw [if_neg (by rw [n1_good (by omega)]; decide), if_neg (by omega), if_neg (by rw [hn]; decide), if_neg (by omega)]
  have hI := inv_enrol h.inv (n1 i) 2
  rw [he] at hI
  refine ⟨_, he, hI, by dsimp only; rw [ins_length, hl]; omega, fun m hm => ?_, h.cl, fun _ => ?_⟩
  · rcases mem_ins.1 hm with rfl | hm
    · exact ⟨i, by omega, rfl⟩
    · obtain ⟨j, hj, e⟩ := h.nm m hm
      exact ⟨j, by omega, e⟩
  · rcases Nat.eq_zero_or_pos i with h0 | h0
    · subst h0
      exact ⟨_, mem_ins.2 (.inl rfl), rfl, rfl⟩
    · obtain ⟨m, hm, e1, e2⟩ := h.te (by omega)
      exact ⟨m, mem_ins.2 (.inr hm), e1, e2⟩
theorem Fu1.more {R : Rl} {i : Nat} (h : Fu1 R i) (hi : 256 ≤ i) (hi2 : i < 676) : enrol R (n1 i) 2 = (nil, 12) ∧ Fu1 R (i + 1) := by
  have hn := h.not hi2
  have hl := h.len
  constructor
  · unfold enrol
    rw [if_neg (by rw [n1_good (by omega)]; decide), if_neg (by omega), if_neg (by rw [hn]; decide), if_pos (by omega)]
  · refine ⟨h.inv, by rw [hl]; omega, fun m hm => ?_, h.cl, fun _ => h.te (by omega)⟩
    obtain ⟨j, hj, e⟩ := h.nm m hm
    exact ⟨j, by omega, e⟩
/-- k classes were opened. -/
structure Fu2 (R : Rl) (ml k : Nat) : Prop where
  inv : Inv R
  ml : R.mems.length = ml
  len : R.clss.length = min k 32
  nm : ∀ c ∈ R.clss, ∃ j, j < min k 32 ∧ c.name = n2 j
  te : ∃ m, find Mem.name R.mems (n1 0) = some m ∧ m.role = 2
theorem Fu1.two {R : Rl} {i : Nat} (h : Fu1 R i) (hi : 1 ≤ i) : Fu2 R (min i 256) 0 := by
  refine ⟨h.inv, h.len, by rw [h.cl]; rfl, by rw [h.cl]; simp, ?_⟩
  obtain ⟨m, hm, e1, e2⟩ := h.te hi
  exact ⟨m, find_of h.inv.ms hm e1, e2⟩
theorem Fu2.not {R : Rl} {ml k : Nat} (h : Fu2 R ml k) (hi : k < 676) : has Cls.name R.clss (n2 k) = false := by
  rw [has_not]
  intro m hm e
  obtain ⟨j, hj, hj2⟩ := h.nm m hm
  have := n2_inj (by omega) hi (hj2.symm.trans e)
  omega
theorem Fu2.next {R : Rl} {ml k : Nat} (h : Fu2 R ml k) (hi : k < 32) : ∃ R2, open_ R (n2 k) (n1 0) = (R2, 0) ∧ Fu2 R2 ml (k + 1) := by
  have hn := h.not (by omega)
  have hl := h.len
  obtain ⟨m, hm, hr⟩ := h.te
  have he : open_ R (n2 k) (n1 0) = (⟨R.mems, ins Cls.name R.clss (n2 k) ⟨n2 k, n1 0, []⟩⟩, 0) := by
    unfold open_
    rw [if_neg (by rw [n2_good (by omega)]; decide), if_neg (by rw [hn]; decide), hm]
    dsimp only
    rw [if_neg (by omega), if_neg (by omega)]
  have hI := inv_open h.inv (n2 k) (n1 0)
  rw [he] at hI
  refine ⟨_, he, hI, h.ml, by dsimp only; rw [ins_length, hl]; omega, fun c hc => ?_, m, hm, hr⟩
  rcases mem_ins.1 hc with rfl | hc
  · exact ⟨k, by omega, rfl⟩
  · obtain ⟨j, hj, e⟩ := h.nm c hc
    exact ⟨j, by omega, e⟩
theorem Fu2.more {R : Rl} {ml k : Nat} (h : Fu2 R ml k) (hi : 32 ≤ k) (hi2 : k < 676) : open_ R (n2 k) (n1 0) = (nil, 12) ∧ Fu2 R ml (k + 1) := by
  have hn := h.not hi2
  have hl := h.len
  obtain ⟨m, hm, hr⟩ := h.te
  constructor
  · unfold open_
    rw [if_neg (by rw [n2_good (by omega)]; decide), if_neg (by rw [hn]; decide), hm]
    dsimp only
    rw [if_neg (by omega), if_pos (by omega)]
  · refine ⟨h.inv, h.ml, by rw [hl]; omega, fun c hc => ?_, m, hm, hr⟩
    obtain ⟨j, hj, e⟩ := h.nm c hc
    exact ⟨j, by omega, e⟩
end Roll
end Go.Proofs.Ytekailaoanpcgaa
