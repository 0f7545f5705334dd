/- Lists that are sorted by names: where a name stands, putting in, taking out. No program is in sight here. -/
import Derived.Test.YtofcmghhmklmiaaGreatCmdLaw
import Derived.Lib.Bytealg
namespace Go.Proofs.YtofcmghhmklmiaaGreat
namespace Roll
abbrev B := List UInt8

theorem ltt {a b c : B} (h : a < b) (k : b < c) : a < c := List.lt_trans h k
theorem ltn (a : B) : ¬ a < a := List.lt_irrefl a
theorem lta {a b : B} (h : a < b) : ¬ b < a := fun k => ltn a (ltt h k)
theorem ltri (a b : B) : a < b ∨ a = b ∨ b < a := by
  by_cases h : a < b
  · exact .inl h
  · by_cases k : b < a
    · exact .inr (.inr k)
    · exact .inr (.inl (List.le_antisymm k h))
theorem cmp_lt : ∀ (a b : B), (Lib.compareBytes a b < 0) ↔ a < b
  | [], [] => by simp [Lib.compareBytes]
  | [], b :: ts => by simp [Lib.compareBytes]
  | a :: rs, [] => by simp [Lib.compareBytes]
  | a :: rs, b :: ts => by
    have ih := cmp_lt rs ts
    unfold Lib.compareBytes
    by_cases h : a < b
    · simp [h, List.cons_lt_cons_iff]
    · by_cases k : b < a
      · have hne : a ≠ b := fun e => by subst e; exact h k
        simp [h, k, List.cons_lt_cons_iff, hne]
      · have e : a = b := UInt8.le_antisymm (UInt8.not_lt.1 k) (UInt8.not_lt.1 h)
        subst e
        simp [ih]
theorem cmp_eq0 : ∀ (a b : B), (Lib.compareBytes a b = 0) ↔ a = b
  | [], [] => by simp [Lib.compareBytes]
  | [], b :: ts => by simp [Lib.compareBytes]
  | a :: rs, [] => by simp [Lib.compareBytes]
  | a :: rs, b :: ts => by
    have ih := cmp_eq0 rs ts
    unfold Lib.compareBytes
    by_cases h : a < b
    · have hne : a ≠ b := fun e => by subst e; exact UInt8.lt_irrefl _ h
      simp [h, hne]
    · by_cases k : b < a
      · have hne : a ≠ b := fun e => by subst e; exact h k
        simp [h, k, hne]
      · have e : a = b := UInt8.le_antisymm (UInt8.not_lt.1 k) (UInt8.not_lt.1 h)
        subst e
        simp [ih]
theorem less_eq : ∀ (x y : B), Op.bytesLess x y = decide (x < y)
  | [], [] => by simp [Op.bytesLess]
  | _ :: _, [] => by simp [Op.bytesLess]
  | [], _ :: _ => by simp [Op.bytesLess]
  | a :: x, b :: y => by
    rw [Op.bytesLess, less_eq x y]
    simp only [List.cons_lt_cons_iff]
    by_cases h1 : a < b <;> by_cases h2 : a = b <;> by_cases h3 : x < y <;> simp [h1, h2, h3]

section
variable {α : Type} (key : α → B)
def Srt (l : List α) : Prop := l.Pairwise fun a b => key a < key b
def place (l : List α) (n : B) : Nat := l.countP fun x => decide (key x < n)
def has (l : List α) (n : B) : Bool := l.any fun x => decide (key x = n)
def ins (l : List α) (n : B) (x : α) : List α := l.take (place key l n) ++ x :: l.drop (place key l n)
variable {key}
variable {l : List α} {n : B}
theorem place_le : place key l n ≤ l.length := List.countP_le_length
theorem place_cons_lt {a : α} (h : key a < n) : place key (a :: l) n = place key l n + 1 := by
  unfold place
  rw [List.countP_cons_of_pos (by simpa using h)]
theorem place_none (h : ∀ x ∈ l, ¬ key x < n) : place key l n = 0 := by
  unfold place
  rw [List.countP_eq_zero]
  intro x hx
  simpa using h x hx
theorem place_cons_ge {a : α} (hs : Srt key (a :: l)) (h : ¬ key a < n) : place key (a :: l) n = 0 := by
  refine place_none fun x hx => ?_
  rcases List.mem_cons.1 hx with rfl | hx
  · exact h
  · have := (List.pairwise_cons.1 hs).1 x hx
    exact fun k => h (ltt this k)
theorem lt_place : ∀ {l : List α} (_ : Srt key l) (t : Nat) (ht : t < l.length), t < place key l n ↔ key l[t] < n
  | [], _, t, ht => by simp at ht
  | a :: l, hs, t, ht => by
    by_cases h : key a < n
    · rw [place_cons_lt h]
      cases t with
      | zero => simp [h]
      | succ t =>
        rw [List.getElem_cons_succ, ← lt_place (List.pairwise_cons.1 hs).2 t (by simpa using ht)]
        omega
    · rw [place_cons_ge hs h]
      constructor
      · intro h; omega
      · intro k
        exfalso
        cases t with
        | zero => exact h k
        | succ t =>
          rw [List.getElem_cons_succ] at k
          exact h (ltt ((List.pairwise_cons.1 hs).1 _ (List.getElem_mem _)) k)
theorem has_iff : has key l n = true ↔ ∃ x ∈ l, key x = n := by simp [has]
theorem has_not : has key l n = false ↔ ∀ x ∈ l, key x ≠ n := by simp [has]
theorem has_at : ∀ {l : List α} (_ : Srt key l), has key l n = true ↔ ∃ h : place key l n < l.length, key l[place key l n] = n
  | [], _ => by simp [has]
  | a :: l, hs => by
    by_cases h : key a < n
    · have e1 : has key (a :: l) n = has key l n := by
        have : key a ≠ n := fun e => by rw [e] at h; exact ltn _ h
        simp [has, this]
      rw [e1, has_at (List.pairwise_cons.1 hs).2]
      simp only [place_cons_lt h, List.length_cons, List.getElem_cons_succ]
      constructor
      · rintro ⟨h1, h2⟩; exact ⟨by omega, h2⟩
      · rintro ⟨h1, h2⟩; exact ⟨by omega, h2⟩
    · simp only [place_cons_ge hs h, List.getElem_cons_zero, List.length_cons]
      constructor
      · intro hh
        obtain ⟨x, hx, e⟩ := has_iff.1 hh
        rcases List.mem_cons.1 hx with rfl | hx
        · exact ⟨by omega, e⟩
        · exact absurd (e ▸ (List.pairwise_cons.1 hs).1 x hx) h
      · rintro ⟨h1, h2⟩
        exact has_iff.2 ⟨a, by simp, h2⟩
theorem mem_ins {x y : α} : y ∈ ins key l n x ↔ y = x ∨ y ∈ l := by
  unfold ins
  rw [List.mem_append, List.mem_cons]
  constructor
  · rintro (h | h | h)
    · exact .inr (List.mem_of_mem_take h)
    · exact .inl h
    · exact .inr (List.mem_of_mem_drop h)
  · rintro (h | h)
    · exact .inr (.inl h)
    · rw [← List.take_append_drop (place key l n) l, List.mem_append] at h
      rcases h with h | h
      · exact .inl h
      · exact .inr (.inr h)
theorem ins_length (x : α) : (ins key l n x).length = l.length + 1 := by
  have := @place_le α key l n
  simp [ins]
  omega
theorem ins_cons_lt {a x : α} (h : key a < n) : ins key (a :: l) n x = a :: ins key l n x := by
  unfold ins
  rw [place_cons_lt h]
  rfl
theorem ins_cons_ge {a x : α} (hs : Srt key (a :: l)) (h : ¬ key a < n) : ins key (a :: l) n x = x :: a :: l := by
  unfold ins
  rw [place_cons_ge hs h]
  rfl
theorem srt_ins {x : α} (hx : key x = n) : ∀ {l : List α} (_ : Srt key l) (_ : has key l n = false), Srt key (ins key l n x)
  | [], _, _ => by simp [ins, Srt, place]
  | a :: l, hs, hn => by
    have hn' := has_not.1 hn
    by_cases h : key a < n
    · rw [ins_cons_lt h]
      refine List.pairwise_cons.2 ⟨fun y hy => ?_, srt_ins hx (List.pairwise_cons.1 hs).2 (has_not.2 fun x hx => hn' x (List.mem_cons_of_mem _ hx))⟩
      rcases mem_ins.1 hy with rfl | hy
      · rw [hx]; exact h
      · exact (List.pairwise_cons.1 hs).1 y hy
    · rw [ins_cons_ge hs h]
      have h' : n < key a := by
        rcases ltri (key a) n with k | k | k
        · exact absurd k h
        · exact absurd k (hn' a (by simp))
        · exact k
      refine List.pairwise_cons.2 ⟨fun y hy => ?_, hs⟩
      rw [hx]
      rcases List.mem_cons.1 hy with rfl | hy
      · exact h'
      · exact ltt h' ((List.pairwise_cons.1 hs).1 y hy)
theorem srt_filter {l : List α} (p : α → Bool) (hs : Srt key l) : Srt key (l.filter p) := List.Pairwise.filter p hs
theorem erase_eq : ∀ {l : List α} (_ : Srt key l) (_ : has key l n = true), l.eraseIdx (place key l n) = l.filter fun x => !decide (key x = n)
  | [], _, h => by simp [has] at h
  | a :: l, hs, hh => by
    by_cases h : key a < n
    · have hne : key a ≠ n := fun e => by rw [e] at h; exact ltn _ h
      have hh' : has key l n = true := by simpa [has, hne] using hh
      rw [place_cons_lt h, List.eraseIdx_cons_succ, erase_eq (List.pairwise_cons.1 hs).2 hh']
      simp [hne]
    · obtain ⟨h1, h2⟩ := (has_at hs).1 hh
      simp only [place_cons_ge hs h, List.getElem_cons_zero] at h2
      rw [place_cons_ge hs h, List.eraseIdx_cons_zero]
      have : l.filter (fun x => !decide (key x = n)) = l := by
        rw [List.filter_eq_self]
        intro x hx
        have := (List.pairwise_cons.1 hs).1 x hx
        rw [h2] at this
        have hne : key x ≠ n := fun e => by rw [e] at this; exact ltn _ this
        simp [hne]
      simp [h2, this]
theorem srt_erase {l : List α} (i : Nat) (hs : Srt key l) : Srt key (l.eraseIdx i) := List.Pairwise.sublist (List.eraseIdx_sublist _ _) hs
theorem srt_ext : ∀ {l m : List α} (_ : Srt key l) (_ : Srt key m) (_ : ∀ x, x ∈ l ↔ x ∈ m), l = m
  | [], [], _, _, _ => rfl
  | [], b :: m, _, _, h => by have := (h b).2 (by simp); simp at this
  | a :: l, [], _, _, h => by have := (h a).1 (by simp); simp at this
  | a :: l, b :: m, hl, hm, h => by
    have ha := List.pairwise_cons.1 hl
    have hb := List.pairwise_cons.1 hm
    have hab : a = b := by
      rcases List.mem_cons.1 ((h a).1 (by simp)) with e | e
      · exact e
      · rcases List.mem_cons.1 ((h b).2 (by simp)) with e' | e'
        · exact e'.symm
        · exact absurd (ltt (ha.1 b e') (hb.1 a e)) (ltn _)
    subst hab
    rw [srt_ext ha.2 hb.2]
    intro x
    have hx := h x
    simp only [List.mem_cons] at hx
    constructor
    · intro k
      rcases hx.1 (.inr k) with e | e
      · subst e; exact absurd (ha.1 x k) (ltn _)
      · exact e
    · intro k
      rcases hx.2 (.inr k) with e | e
      · subst e; exact absurd (hb.1 x k) (ltn _)
      · exact e
theorem has_opt {l : List α} (hs : Srt key l) : has key l n = true ↔ ∃ x, l[place key l n]? = some x ∧ key x = n := by
  rw [has_at hs]
  constructor
  · rintro ⟨h, e⟩
    exact ⟨_, List.getElem?_eq_getElem h, e⟩
  · rintro ⟨x, h, e⟩
    obtain ⟨h1, h2⟩ := List.getElem?_eq_some_iff.1 h
    exact ⟨h1, by rw [h2]; exact e⟩
/-- Two of a sorted list with the same name are one. -/
theorem srt_uniq {l : List α} (hs : Srt key l) {x y : α} (hx : x ∈ l) (hy : y ∈ l) (h : key x = key y) : x = y := by
  obtain ⟨i, hi, rfl⟩ := List.getElem_of_mem hx
  obtain ⟨j, hj, rfl⟩ := List.getElem_of_mem hy
  rcases Nat.lt_trichotomy i j with h' | h' | h'
  · have := List.pairwise_iff_getElem.1 hs i j hi hj h'
    rw [h] at this
    exact absurd this (ltn _)
  · subst h'; rfl
  · have := List.pairwise_iff_getElem.1 hs j i hj hi h'
    rw [h] at this
    exact absurd this (ltn _)
/-- The one of a name. -/
def find (key : α → B) (l : List α) (n : B) : Option α := l.find? fun x => decide (key x = n)
theorem find_none : find key l n = none ↔ has key l n = false := by simp [find, has]
theorem find_some {x : α} (h : find key l n = some x) : x ∈ l ∧ key x = n := by
  have h1 := List.mem_of_find?_eq_some h
  have h2 := List.find?_some h
  exact ⟨h1, by simpa using h2⟩
theorem find_has {x : α} (h : find key l n = some x) : has key l n = true := has_iff.2 ⟨x, find_some h⟩
theorem find_at {l : List α} (hs : Srt key l) (h : has key l n = true) : ∃ hl : place key l n < l.length, find key l n = some l[place key l n] := by
  obtain ⟨h1, h2⟩ := (has_at hs).1 h
  refine ⟨h1, ?_⟩
  cases hf : find key l n with
  | none => rw [find_none.1 hf] at h; cases h
  | some x =>
    obtain ⟨k1, k2⟩ := find_some hf
    rw [srt_uniq hs k1 (List.getElem_mem h1) (k2.trans h2.symm)]
theorem find_of {l : List α} (hs : Srt key l) {x : α} (hx : x ∈ l) (h : key x = n) : find key l n = some x := by
  cases hf : find key l n with
  | none => have := has_not.1 (find_none.1 hf) x hx; exact absurd h this
  | some y =>
    obtain ⟨k1, k2⟩ := find_some hf
    rw [srt_uniq hs k1 hx (k2.trans h.symm)]
/-- Something done to the one of a name. -/
theorem set_at {l : List α} (hs : Srt key l) (f : α → α) (h : place key l n < l.length) (hk : key l[place key l n] = n) : l.set (place key l n) (f l[place key l n]) = l.map fun x => if key x = n then f x else x := by
  apply List.ext_getElem
  · simp
  · intro i h1 h2
    rw [List.getElem_set, List.getElem_map]
    by_cases e : place key l n = i
    · subst e
      rw [if_pos rfl, if_pos hk]
    · rw [if_neg e, if_neg]
      intro k
      simp only [List.length_set] at h1
      have := srt_uniq hs (List.getElem_mem h1) (List.getElem_mem h) (k.trans hk.symm)
      have h3 := List.pairwise_iff_getElem.1 hs
      rcases Nat.lt_trichotomy i (place key l n) with h' | h' | h'
      · have := h3 _ _ h1 h h'
        rw [k, hk] at this
        exact ltn _ this
      · exact e h'.symm
      · have := h3 _ _ h h1 h'
        rw [k, hk] at this
        exact ltn _ this
theorem srt_map {l : List α} (f : α → α) (hf : ∀ x, key (f x) = key x) (hs : Srt key l) : Srt key (l.map f) := by
  refine List.pairwise_map.2 (List.Pairwise.imp ?_ hs)
  intro a b h
  rw [hf, hf]
  exact h
end
end Roll
end Go.Proofs.YtofcmghhmklmiaaGreat
