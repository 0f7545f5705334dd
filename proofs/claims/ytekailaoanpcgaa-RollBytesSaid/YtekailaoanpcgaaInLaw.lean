/- The plain laws of reading: what was written is read again, and what is read is what is written so. No program is in sight here. -/
import Derived.Test.YtekailaoanpcgaaIn4
namespace Go.Proofs.Ytekailaoanpcgaa

theorem enc_some {n : Int} (h : (Oct.enc n).isEmpty = false) : -9007199254740992 ≤ n ∧ n ≤ 9007199254740992 := by
  have h1 : ¬ (n < -9007199254740992 ∨ 9007199254740992 < n) := fun hh => by rw [Oct.enc_out hh] at h; simp at h
  omega
theorem enc_empty (n : Int) : (Oct.enc n).isEmpty = !(decide (-9007199254740992 ≤ n) && decide (n ≤ 9007199254740992)) := by
  by_cases h : -9007199254740992 ≤ n ∧ n ≤ 9007199254740992
  · have := Oct.enc_ne h.1 h.2
    rw [decide_eq_true h.1, decide_eq_true h.2]
    simpa using this
  · rw [Oct.enc_out (by omega)]
    by_cases h1 : -9007199254740992 ≤ n
    · have h2 : ¬ n ≤ 9007199254740992 := fun h2 => h ⟨h1, h2⟩
      simp [h1, h2]
    · simp [h1]
theorem rInt_enc {n : Int} (h : (Oct.enc n).isEmpty = false) (r : List UInt8) : Oct.rInt (Oct.enc n ++ r) 0 = (n, r, 0) := by
  have h1 := enc_some h
  rw [rInt_ok (Oct.dec_enc n h1.1 h1.2 r)]
  simp
theorem rSize_enc {most : Int} {n : Nat} (h1 : (n : Int) ≤ most) (h2 : n ≤ 65536) (r : List UInt8) : Oct.rSize most (Oct.enc n ++ r) 0 = ((n : Int), r, 0) := by
  have he : (Oct.enc (n : Int)).isEmpty = false := by
    have := Oct.enc_ne (n := (n : Int)) (by omega) (by omega)
    simpa using this
  rw [rSize_eq, rInt_enc he]
  simp only [if_true]
  rw [if_neg (by omega), if_neg (by omega)]
theorem rText_text {s : List UInt8} (h : s.length ≤ 65536) (r : List UInt8) : Oct.rText (Oct.text s ++ r) 0 = (s, r, 0) := by
  have e : Oct.text s ++ r = Oct.enc s.length ++ (s ++ r) := by
    unfold Oct.text
    rw [if_neg (by omega), List.append_assoc]
  rw [e]
  unfold Oct.rText
  rw [rSize_enc (by omega) h]
  simp
theorem nInts_ints : ∀ (zs acc : List Int) (r : List UInt8), Oct.badInts zs = false → Oct.nInts zs.length (Oct.ints zs ++ r) acc = (acc ++ zs, r, 0)
  | [], acc, r, _ => by simp [Oct.nInts, Oct.ints]
  | z :: zs, acc, r, h => by
    simp only [Oct.badInts, List.any_cons, Bool.or_eq_false_iff] at h
    have e : Oct.ints (z :: zs) ++ r = Oct.enc z ++ (Oct.ints zs ++ r) := by simp [Oct.ints]
    rw [e, List.length_cons, Oct.nInts, rInt_enc h.1]
    simp only [if_true]
    rw [nInts_ints zs _ r h.2, List.append_assoc]
    rfl
theorem nTexts_texts : ∀ (ss acc : List (List UInt8)) (r : List UInt8), Oct.badTexts ss = false → Oct.nTexts ss.length (Oct.texts ss ++ r) acc = (acc ++ ss, r, 0)
  | [], acc, r, _ => by simp [Oct.nTexts, Oct.texts]
  | z :: zs, acc, r, h => by
    simp only [Oct.badTexts, List.any_cons, Bool.or_eq_false_iff] at h
    have e : Oct.texts (z :: zs) ++ r = Oct.text z ++ (Oct.texts zs ++ r) := by simp [Oct.texts]
    have hz : z.length ≤ 65536 := by
      have := of_decide_eq_false h.1
      omega
    rw [e, List.length_cons, Oct.nTexts, rText_text hz]
    simp only [if_true]
    rw [nTexts_texts zs _ r h.2, List.append_assoc]
    rfl
theorem rBool_flag (b : Bool) (r : List UInt8) : Oct.rBool (Oct.flag b ++ r) 0 = (b, r, 0) := by
  cases b <;> simp [Oct.rBool, Oct.flag]
theorem rInts_list {zs : List Int} {most : Int} (h1 : (zs.length : Int) ≤ most) (h2 : zs.length ≤ 65536) (hb : Oct.badInts zs = false) (r : List UInt8) : Oct.rInts most (Oct.enc zs.length ++ Oct.ints zs ++ r) 0 = (zs, r, 0) := by
  rw [List.append_assoc]
  unfold Oct.rInts
  rw [rSize_enc h1 h2]
  simp only [if_true, Int.toNat_natCast]
  rw [nInts_ints zs [] r hb]
  rfl
theorem rTexts_list {ss : List (List UInt8)} {most : Int} (h1 : (ss.length : Int) ≤ most) (h2 : ss.length ≤ 65536) (hb : Oct.badTexts ss = false) (r : List UInt8) : Oct.rTexts most (Oct.enc ss.length ++ Oct.texts ss ++ r) 0 = (ss, r, 0) := by
  rw [List.append_assoc]
  unfold Oct.rTexts
  rw [rSize_enc h1 h2]
  simp only [if_true, Int.toNat_natCast]
  rw [nTexts_texts ss [] r hb]
  rfl

theorem rInt_inv {s s' : List UInt8} {e n : Int} (h : Oct.rInt s e = (n, s', 0)) : e = 0 ∧ s = Oct.enc n ++ s' ∧ (Oct.enc n).isEmpty = false := by
  by_cases he : e = 0
  · subst he
    obtain ⟨⟨m, k, e1⟩, hd⟩ : ∃ x, Oct.dec s = x := ⟨_, rfl⟩
    by_cases h1 : e1 = 0
    · subst h1
      rw [rInt_ok hd] at h
      simp only [Prod.mk.injEq, and_true] at h
      obtain ⟨rfl, rfl⟩ := h
      obtain ⟨h2, h3, h4, -, -, -⟩ := Oct.dec_ok hd
      refine ⟨rfl, by rw [h4, List.take_append_drop], ?_⟩
      have := Oct.enc_ne h2 h3
      simpa using this
    · rw [rInt_er hd h1] at h
      simp only [Prod.mk.injEq] at h
      exact absurd h.2.2 h1
  · rw [rInt_no he] at h
    simp only [Prod.mk.injEq] at h
    exact absurd h.2.2 he
theorem rSize_inv {most : Int} {s s' : List UInt8} {e n : Int} (h : Oct.rSize most s e = (n, s', 0)) : e = 0 ∧ 0 ≤ n ∧ n ≤ most ∧ n ≤ 65536 ∧ s = Oct.enc n ++ s' := by
  rw [rSize_eq] at h
  split at h
  · rename_i h1
    split at h
    · simp at h
    · split at h
      · simp at h
      · rename_i h2 h3
        obtain ⟨a, b, -⟩ := rInt_inv h
        have hf : (Oct.rInt s e).1 = n := by rw [h]
        rw [hf] at h2 h3
        exact ⟨a, by omega, by omega, by omega, b⟩
  · rename_i h1
    simp only [Prod.mk.injEq] at h
    exact absurd h.2.2 h1
theorem rText_inv {s s' t : List UInt8} {e : Int} (h : Oct.rText s e = (t, s', 0)) : e = 0 ∧ s = Oct.text t ++ s' ∧ t.length ≤ 65536 := by
  unfold Oct.rText at h
  obtain ⟨⟨n, s1, e1⟩, hr⟩ : ∃ x, Oct.rSize 65536 s e = x := ⟨_, rfl⟩
  rw [hr] at h
  simp only at h
  split at h
  · rename_i h1
    subst h1
    obtain ⟨a, b, -, c, d⟩ := rSize_inv hr
    split at h
    · simp at h
    · simp only [Prod.mk.injEq, and_true] at h
      obtain ⟨rfl, rfl⟩ := h
      have hl : (s1.take n.toNat).length = n.toNat := by rw [List.length_take]; omega
      refine ⟨a, ?_, by omega⟩
      unfold Oct.text
      rw [if_neg (by omega), hl, show ((n.toNat : Nat) : Int) = n by omega, List.append_assoc, List.take_append_drop, d]
  · rename_i h1
    simp only [Prod.mk.injEq] at h
    exact absurd h.2.2 h1
theorem nTexts_inv : ∀ (n : Nat) (s s' : List UInt8) (acc res : List (List UInt8)), Oct.nTexts n s acc = (res, s', 0) → ∃ ss, res = acc ++ ss ∧ ss.length = n ∧ s = Oct.texts ss ++ s' ∧ ∀ t ∈ ss, t.length ≤ 65536
  | 0, s, s', acc, res, h => by
    simp only [Oct.nTexts, Prod.mk.injEq, and_true] at h
    exact ⟨[], by simp [h.1], rfl, by simp [Oct.texts, h.2], by simp⟩
  | n + 1, s, s', acc, res, h => by
    rw [Oct.nTexts] at h
    obtain ⟨⟨t, s1, e1⟩, hr⟩ : ∃ x, Oct.rText s 0 = x := ⟨_, rfl⟩
    rw [hr] at h
    simp only at h
    split at h
    · rename_i h1
      subst h1
      obtain ⟨-, a, b⟩ := rText_inv hr
      obtain ⟨ss, rfl, h2, rfl, h4⟩ := nTexts_inv n s1 s' _ res h
      refine ⟨t :: ss, by simp, by simp [h2], ?_, ?_⟩
      · rw [a]; simp [Oct.texts]
      · intro u hu
        rcases List.mem_cons.1 hu with rfl | hu
        · exact b
        · exact h4 u hu
    · rename_i h1
      simp only [Prod.mk.injEq] at h
      exact absurd h.2.2 h1
theorem rTexts_inv {most : Int} {s s' : List UInt8} {e : Int} {ss : List (List UInt8)} (h : Oct.rTexts most s e = (ss, s', 0)) : e = 0 ∧ s = Oct.enc ss.length ++ Oct.texts ss ++ s' ∧ (ss.length : Int) ≤ most ∧ ∀ t ∈ ss, t.length ≤ 65536 := by
  unfold Oct.rTexts at h
  obtain ⟨⟨n, s1, e1⟩, hr⟩ : ∃ x, Oct.rSize most s e = x := ⟨_, rfl⟩
  rw [hr] at h
  simp only at h
  split at h
  · rename_i h1
    subst h1
    obtain ⟨a, b, b2, c, d⟩ := rSize_inv hr
    obtain ⟨ss', e, h2, h3, h4⟩ := nTexts_inv _ _ _ _ _ h
    rw [List.nil_append] at e
    subst e
    refine ⟨a, ?_, by omega, h4⟩
    rw [d, h3, h2, show ((n.toNat : Nat) : Int) = n by omega, List.append_assoc]
  · rename_i h1
    simp only [Prod.mk.injEq] at h
    exact absurd h.2.2 h1
end Go.Proofs.Ytekailaoanpcgaa
