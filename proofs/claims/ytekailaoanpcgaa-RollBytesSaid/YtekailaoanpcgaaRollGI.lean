/- What Get answers for, are a roll's bytes. No program is in sight here. -/
import Derived.Test.YtekailaoanpcgaaRollGL
namespace Go.Proofs.Ytekailaoanpcgaa
namespace Roll
theorem rMem_inv {s s' : List UInt8} {e : Int} {m : Mem} (h : rMem s e = (m, s', 0)) : e = 0 ∧ s = memB m ++ s' := by
  obtain ⟨⟨a, s1, e1⟩, h1⟩ : ∃ x, Oct.rText s e = x := ⟨_, rfl⟩
  obtain ⟨⟨r, s2, e2⟩, h2⟩ : ∃ x, Oct.rInt s1 e1 = x := ⟨_, rfl⟩
  obtain ⟨⟨q, s3, e3⟩, h3⟩ : ∃ x, Oct.rInt s2 e2 = x := ⟨_, rfl⟩
  rw [rMem_of h1 h2 h3] at h
  simp only [Prod.mk.injEq] at h
  obtain ⟨rfl, rfl, rfl⟩ := h
  obtain ⟨rfl, rfl, -⟩ := rInt_inv h3
  obtain ⟨rfl, rfl, -⟩ := rInt_inv h2
  obtain ⟨rfl, rfl, -⟩ := rText_inv h1
  exact ⟨rfl, by simp [memB]⟩
theorem rCls_inv {s s' : List UInt8} {e : Int} {c : Cls} (h : rCls s e = (c, s', 0)) : e = 0 ∧ s = clsB c ++ s' := by
  obtain ⟨⟨a, s1, e1⟩, h1⟩ : ∃ x, Oct.rText s e = x := ⟨_, rfl⟩
  obtain ⟨⟨r, s2, e2⟩, h2⟩ : ∃ x, Oct.rText s1 e1 = x := ⟨_, rfl⟩
  obtain ⟨⟨q, s3, e3⟩, h3⟩ : ∃ x, Oct.rTexts 256 s2 e2 = x := ⟨_, rfl⟩
  rw [rCls_of h1 h2 h3] at h
  simp only [Prod.mk.injEq] at h
  obtain ⟨rfl, rfl, rfl⟩ := h
  obtain ⟨rfl, rfl, -⟩ := rTexts_inv h3
  obtain ⟨rfl, rfl, -⟩ := rText_inv h2
  obtain ⟨rfl, rfl, -⟩ := rText_inv h1
  exact ⟨rfl, by simp [clsB]⟩
theorem rMems_inv : ∀ (n : Nat) (s s' : List UInt8) (e : Int) (acc l : List Mem), rMems n s e acc = (l, s', 0) → e = 0 ∧ ∃ ms, l = acc ++ ms ∧ ms.length = n ∧ s = ms.flatMap memB ++ s'
  | 0, s, s', e, acc, l, h => by
    simp only [rMems, Prod.mk.injEq] at h
    obtain ⟨rfl, rfl, rfl⟩ := h
    exact ⟨rfl, [], by simp⟩
  | n + 1, s, s', e, acc, l, h => by
    by_cases he : e = 0
    · subst he
      obtain ⟨⟨m, s1, e1⟩, h1⟩ : ∃ x, rMem s 0 = x := ⟨_, rfl⟩
      rw [rMems_step h1] at h
      obtain ⟨rfl, ms, rfl, hl, rfl⟩ := rMems_inv n s1 s' e1 _ l h
      obtain ⟨-, rfl⟩ := rMem_inv h1
      exact ⟨rfl, m :: ms, by simp, by simp [hl], by simp⟩
    · rw [rMems_stop he] at h
      simp only [Prod.mk.injEq] at h
      exact absurd h.2.2 he
theorem rClss_inv : ∀ (n : Nat) (s s' : List UInt8) (e : Int) (acc l : List Cls), rClss n s e acc = (l, s', 0) → e = 0 ∧ ∃ ms, l = acc ++ ms ∧ ms.length = n ∧ s = ms.flatMap clsB ++ s'
  | 0, s, s', e, acc, l, h => by
    simp only [rClss, Prod.mk.injEq] at h
    obtain ⟨rfl, rfl, rfl⟩ := h
    exact ⟨rfl, [], by simp⟩
  | n + 1, s, s', e, acc, l, h => by
    by_cases he : e = 0
    · subst he
      obtain ⟨⟨m, s1, e1⟩, h1⟩ : ∃ x, rCls s 0 = x := ⟨_, rfl⟩
      rw [rClss_step h1] at h
      obtain ⟨rfl, ms, rfl, hl, rfl⟩ := rClss_inv n s1 s' e1 _ l h
      obtain ⟨-, rfl⟩ := rCls_inv h1
      exact ⟨rfl, m :: ms, by simp, by simp [hl], by simp⟩
    · rw [rClss_stop he] at h
      simp only [Prod.mk.injEq] at h
      exact absurd h.2.2 he
theorem fin_inv {R R2 : Rl} {s : List UInt8} {e : Int} (h : fin R s e = (R2, 0)) : e = 0 ∧ s = [] ∧ R2 = R ∧ Right R := by
  unfold fin at h
  split at h
  · rename_i he
    simp only [Prod.mk.injEq] at h
    exact absurd h.2 he
  rename_i he
  split at h
  · simp at h
  rename_i hr
  split at h
  · simp at h
  rename_i hs
  simp only [Prod.mk.injEq] at h
  exact ⟨by simpa using he, by simpa using hs, h.1.symm, (rightB_iff R).1 (by simpa using hr)⟩
theorem get_inv {s : List UInt8} {R : Rl} (h : getR s = (R, 0)) : Inv R ∧ put R = s := by
  have bad : ∀ {e1 : Int}, (if e1 ≠ 0 then (nil, e1) else (nil, 2)) = (R, (0 : Int)) → False := fun {e1} h => by
    split at h
    · rename_i he
      simp only [Prod.mk.injEq] at h
      exact he h.2
    · simp at h
  obtain ⟨⟨n, s1, e1⟩, h1⟩ : ∃ x, Oct.rInt s 0 = x := ⟨_, rfl⟩
  by_cases hn : 0 ≤ n ∧ n ≤ 256
  · obtain ⟨N, rfl⟩ := Int.eq_ofNat_of_zero_le hn.1
    obtain ⟨⟨ms, s2, e2⟩, h2⟩ : ∃ x, rMems N s1 e1 [] = x := ⟨_, rfl⟩
    rw [getR_in h1 (by omega) h2] at h
    obtain ⟨⟨m, s3, e3⟩, h3⟩ : ∃ x, Oct.rInt s2 e2 = x := ⟨_, rfl⟩
    by_cases hm : 0 ≤ m ∧ m ≤ 32
    · obtain ⟨M, rfl⟩ := Int.eq_ofNat_of_zero_le hm.1
      obtain ⟨⟨cs, s4, e4⟩, h4⟩ : ∃ x, rClss M s3 e3 [] = x := ⟨_, rfl⟩
      rw [getC_in h3 (by omega) h4] at h
      obtain ⟨rfl, rfl, rfl, hr⟩ := fin_inv h
      obtain ⟨rfl, cs', hcs, hcl, rfl⟩ := rClss_inv _ _ _ _ _ _ h4
      obtain ⟨rfl, rfl, -⟩ := rInt_inv h3
      obtain ⟨rfl, ms', hms, hml, rfl⟩ := rMems_inv _ _ _ _ _ _ h2
      obtain ⟨-, rfl, -⟩ := rInt_inv h1
      rw [List.nil_append] at hcs hms
      subst hcs hms
      refine ⟨hr.inv (by dsimp only; omega) (by dsimp only; omega), ?_⟩
      simp [put, hml, hcl]
    · rw [getC_out h3 hm] at h
      exact (bad h).elim
  · rw [getR_out h1 hn] at h
    exact (bad h).elim
/-- Whatever the bytes are, what Get answers is a roll. -/
theorem get_right (s : List UInt8) : Inv (getR s).1 := by
  by_cases h : (getR s).2 = 0
  · exact (get_inv (s := s) (R := (getR s).1) (by rw [← h])).1
  · have bad : ∀ {e1 : Int}, Inv (if e1 ≠ 0 then ((nil, e1) : Rl × Int) else (nil, 2)).1 := fun {e1} => by
      split <;> exact inv_nil
    have hf : ∀ R t e, (fin R t e).2 ≠ 0 → (fin R t e).1 = nil := fun R t e h => by
      unfold fin at h ⊢
      split
      · rfl
      split
      · rfl
      split
      · rfl
      · rename_i h1 h2 h3
        rw [if_neg h1, if_neg h2, if_neg h3] at h
        exact absurd rfl h
    obtain ⟨⟨n, s1, e1⟩, h1⟩ : ∃ x, Oct.rInt s 0 = x := ⟨_, rfl⟩
    by_cases hn : 0 ≤ n ∧ n ≤ 256
    · obtain ⟨N, rfl⟩ := Int.eq_ofNat_of_zero_le hn.1
      obtain ⟨⟨ms, s2, e2⟩, h2⟩ : ∃ x, rMems N s1 e1 [] = x := ⟨_, rfl⟩
      rw [getR_in h1 (by omega) h2] at h ⊢
      obtain ⟨⟨m, s3, e3⟩, h3⟩ : ∃ x, Oct.rInt s2 e2 = x := ⟨_, rfl⟩
      by_cases hm : 0 ≤ m ∧ m ≤ 32
      · obtain ⟨M, rfl⟩ := Int.eq_ofNat_of_zero_le hm.1
        obtain ⟨⟨cs, s4, e4⟩, h4⟩ : ∃ x, rClss M s3 e3 [] = x := ⟨_, rfl⟩
        rw [getC_in h3 (by omega) h4] at h ⊢
        rw [hf _ _ _ h]
        exact inv_nil
      · rw [getC_out h3 hm]
        exact bad
    · rw [getR_out h1 hn]
      exact bad
end Roll
end Go.Proofs.Ytekailaoanpcgaa
