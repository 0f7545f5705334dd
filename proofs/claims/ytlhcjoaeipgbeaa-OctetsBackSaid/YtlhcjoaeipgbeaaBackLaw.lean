/- The plain law of an item: what write writes the readers read back. No program is in sight here. -/
import Derived.Test.YtlhcjoaeipgbeaaItemW
namespace Go.Proofs.Ytlhcjoaeipgbeaa

theorem enc_some {n : Int} (h : (Oct.enc n).isEmpty = false) : -9007199254740992 ≤ n ∧ n ≤ 9007199254740992 := by
  have h1 : ¬ (n < -9007199254740992 ∨ 9007199254740992 < n) := fun hh => by rw [Oct.enc_out hh] at h; simp at h
  omega
theorem enc_empty (n : Int) : (Oct.enc n).isEmpty = !(decide (-9007199254740992 ≤ n) && decide (n ≤ 9007199254740992)) := by
  by_cases h : -9007199254740992 ≤ n ∧ n ≤ 9007199254740992
  · have := Oct.enc_ne h.1 h.2
    rw [decide_eq_true h.1, decide_eq_true h.2]
    simpa using this
  · rw [Oct.enc_out (by omega)]
    by_cases h1 : -9007199254740992 ≤ n
    · have h2 : ¬ n ≤ 9007199254740992 := fun h2 => h ⟨h1, h2⟩
      simp [h1, h2]
    · simp [h1]
theorem rInt_enc {n : Int} (h : (Oct.enc n).isEmpty = false) (r : List UInt8) : Oct.rInt (Oct.enc n ++ r) 0 = (n, r, 0) := by
  have h1 := enc_some h
  rw [rInt_ok (Oct.dec_enc n h1.1 h1.2 r)]
  simp
theorem rSize_enc {most : Int} {n : Nat} (h1 : (n : Int) ≤ most) (h2 : n ≤ 65536) (r : List UInt8) : Oct.rSize most (Oct.enc n ++ r) 0 = ((n : Int), r, 0) := by
  have he : (Oct.enc (n : Int)).isEmpty = false := by
    have := Oct.enc_ne (n := (n : Int)) (by omega) (by omega)
    simpa using this
  rw [rSize_eq, rInt_enc he]
  simp only [if_true]
  rw [if_neg (by omega), if_neg (by omega)]
theorem rText_text {s : List UInt8} (h : s.length ≤ 65536) (r : List UInt8) : Oct.rText (Oct.text s ++ r) 0 = (s, r, 0) := by
  have e : Oct.text s ++ r = Oct.enc s.length ++ (s ++ r) := by
    unfold Oct.text
    rw [if_neg (by omega), List.append_assoc]
  rw [e]
  unfold Oct.rText
  rw [rSize_enc (by omega) h]
  simp
theorem nInts_ints : ∀ (zs acc : List Int) (r : List UInt8), Oct.badInts zs = false → Oct.nInts zs.length (Oct.ints zs ++ r) acc = (acc ++ zs, r, 0)
  | [], acc, r, _ => by simp [Oct.nInts, Oct.ints]
  | z :: zs, acc, r, h => by
    simp only [Oct.badInts, List.any_cons, Bool.or_eq_false_iff] at h
    have e : Oct.ints (z :: zs) ++ r = Oct.enc z ++ (Oct.ints zs ++ r) := by simp [Oct.ints]
    rw [e, List.length_cons, Oct.nInts, rInt_enc h.1]
    simp only [if_true]
    rw [nInts_ints zs _ r h.2, List.append_assoc]
    rfl
theorem nTexts_texts : ∀ (ss acc : List (List UInt8)) (r : List UInt8), Oct.badTexts ss = false → Oct.nTexts ss.length (Oct.texts ss ++ r) acc = (acc ++ ss, r, 0)
  | [], acc, r, _ => by simp [Oct.nTexts, Oct.texts]
  | z :: zs, acc, r, h => by
    simp only [Oct.badTexts, List.any_cons, Bool.or_eq_false_iff] at h
    have e : Oct.texts (z :: zs) ++ r = Oct.text z ++ (Oct.texts zs ++ r) := by simp [Oct.texts]
    have hz : z.length ≤ 65536 := by
      have := of_decide_eq_false h.1
      omega
    rw [e, List.length_cons, Oct.nTexts, rText_text hz]
    simp only [if_true]
    rw [nTexts_texts zs _ r h.2, List.append_assoc]
    rfl
theorem rBool_flag (b : Bool) (r : List UInt8) : Oct.rBool (Oct.flag b ++ r) 0 = (b, r, 0) := by
  cases b <;> simp [Oct.rBool, Oct.flag]
theorem rInts_list {zs : List Int} {most : Int} (h1 : (zs.length : Int) ≤ most) (h2 : zs.length ≤ 65536) (hb : Oct.badInts zs = false) (r : List UInt8) : Oct.rInts most (Oct.enc zs.length ++ Oct.ints zs ++ r) 0 = (zs, r, 0) := by
  rw [List.append_assoc]
  unfold Oct.rInts
  rw [rSize_enc h1 h2]
  simp only [if_true, Int.toNat_natCast]
  rw [nInts_ints zs [] r hb]
  rfl
theorem rTexts_list {ss : List (List UInt8)} {most : Int} (h1 : (ss.length : Int) ≤ most) (h2 : ss.length ≤ 65536) (hb : Oct.badTexts ss = false) (r : List UInt8) : Oct.rTexts most (Oct.enc ss.length ++ Oct.texts ss ++ r) 0 = (ss, r, 0) := by
  rw [List.append_assoc]
  unfold Oct.rTexts
  rw [rSize_enc h1 h2]
  simp only [if_true, Int.toNat_natCast]
  rw [nTexts_texts ss [] r hb]
  rfl

/-- Is an item too large to be played? -/
def lg (x : It) : Bool := decide (2000 < x.t.length) || decide (200 < x.zs.length) || decide (200 < x.ss.length) || x.ss.any fun s => decide (500 < s.length)
theorem lg_false {x : It} (h : lg x = false) : x.t.length ≤ 2000 ∧ x.zs.length ≤ 200 ∧ x.ss.length ≤ 200 ∧ ∀ s ∈ x.ss, s.length ≤ 500 := by
  simp only [lg, Bool.or_eq_false_iff, List.any_eq_false, decide_eq_true_eq, decide_eq_false_iff_not] at h
  exact ⟨by omega, by omega, by omega, fun s hs => by have := h.2 s hs; omega⟩
/-- Does an item have its bytes? In the law's words. -/
def fitI (x : It) : Bool := if knd x = 0 then (decide (-9007199254740992 ≤ x.n) && decide (x.n ≤ 9007199254740992)) else if knd x = 3 then !Oct.badInts x.zs else true
theorem badItem_fit {x : It} (h : lg x = false) : Oct.badItem x = !fitI x := by
  obtain ⟨h1, h2, h3, h4⟩ := lg_false h
  unfold Oct.badItem fitI
  rcases knd_in x with hk | hk | hk | hk | hk <;> rw [hk] <;> simp (decide := true) only [if_true, if_false]
  · exact enc_empty x.n
  · show decide (65536 < x.t.length) = false
    exact decide_eq_false (by omega)
  · rw [decide_eq_false (show ¬ 65536 < x.zs.length by omega), Bool.false_or]
    exact (Bool.not_not _).symm
  · rw [decide_eq_false (show ¬ 65536 < x.ss.length by omega), Bool.false_or]
    show Oct.badTexts x.ss = false
    simp only [Oct.badTexts, List.any_eq_false, decide_eq_true_eq]
    intro s hs
    have := h4 s hs
    omega
theorem item_le {x : It} (h : lg x = false) : (Oct.item x).length ≤ 14000000 := by
  obtain ⟨h1, h2, h3, h4⟩ := lg_false h
  have e1 := Oct.enc_le x.n
  have e2 := Oct.enc_le x.zs.length
  have e3 := Oct.enc_le x.ss.length
  have e4 := Oct.ints_le x.zs
  have e5 := Oct.texts_le x.ss
  have e6 := Oct.text_le x.t
  unfold Oct.item
  rcases knd_in x with hk | hk | hk | hk | hk <;> rw [hk] <;> simp (decide := true) only [if_true, if_false, List.length_append]
  · omega
  · cases x.b <;> simp [Oct.flag]
  all_goals omega

/-- All the items that are written. -/
def Oct.items (xs : List It) : List UInt8 := xs.flatMap Oct.item
def fitA (xs : List It) : Bool := xs.all fitI
theorem Oct.items_snoc (xs : List It) (k : Nat) (h : k < xs.length) : Oct.items (xs.take (k + 1)) = Oct.items (xs.take k) ++ Oct.item xs[k] := by
  rw [List.take_succ_eq_append_getElem h, Oct.items, Oct.items, List.flatMap_append, List.flatMap_singleton]
theorem fitA_snoc (xs : List It) (k : Nat) (h : k < xs.length) : fitA (xs.take (k + 1)) = (fitA (xs.take k) && fitI xs[k]) := by
  rw [List.take_succ_eq_append_getElem h, fitA, fitA, List.all_append]; rw [List.all_cons, List.all_nil, Bool.and_true]
theorem Oct.items_drop (xs : List It) (k : Nat) (h : k < xs.length) : Oct.items (xs.drop k) = Oct.item xs[k] ++ Oct.items (xs.drop (k + 1)) := by
  rw [List.drop_eq_getElem_cons h, Oct.items, List.flatMap_cons]
  rfl
end Go.Proofs.Ytlhcjoaeipgbeaa
