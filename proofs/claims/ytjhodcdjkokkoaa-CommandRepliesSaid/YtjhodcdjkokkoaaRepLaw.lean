/- The plain laws of replies: their bytes, what is read of bytes, which are the same. No program is in sight here. -/
import Derived.Test.YtjhodcdjkokkoaaInLaw
import Derived.Test.YtjhodcdjkokkoaaMarkLaw
import Derived.Test.YtjhodcdjkokkoaaCmdLaw
namespace Go.Proofs.Ytjhodcdjkokkoaa

structure Rp where
  k : Int
  line : Int
  col : Int
  count : Int
  text : List UInt8
  texts : List (List UInt8)
  marks : List Nat
namespace Rep
def none_ : Rp := ⟨0, 0, 0, 0, [], [], []⟩
def marksOf (l : List (List UInt8)) : List Nat := l.map fun x => (Mk.get x).1
def okM (l : List (List UInt8)) : Bool := l.all fun x => (Mk.get x).2 == 0
/-- What is read of bytes: the fields, the marks' bytes, what is left, the first error. -/
def rd (s : List UInt8) : Rp × List (List UInt8) × List UInt8 × Int :=
  let r0 := Oct.rInt s 0
  let r1 := Oct.rInt r0.2.1 r0.2.2
  let r2 := Oct.rInt r1.2.1 r1.2.2
  let r3 := Oct.rInt r2.2.1 r2.2.2
  let r4 := Oct.rText r3.2.1 r3.2.2
  let r5 := Oct.rTexts 4096 r4.2.1 r4.2.2
  let r6 := Oct.rTexts 4096 r5.2.1 r5.2.2
  (⟨r0.1, r1.1, r2.1, r3.1, r4.1, r5.1, []⟩, r6.1, r6.2.1, r6.2.2)
def fin (x : Rp × List (List UInt8) × List UInt8 × Int) : Rp × Int :=
  if x.2.2.2 ≠ 0 then (none_, x.2.2.2) else if x.1.k < 0 ∨ 20 < x.1.k then (none_, 2) else if okM x.2.1 = false then (none_, 2) else if x.2.2.1 ≠ [] then (none_, 4) else ({ x.1 with marks := marksOf x.2.1 }, 0)
def get (s : List UInt8) : Rp × Int := fin (rd s)
def bad (r : Rp) : Bool := (Oct.enc r.k).isEmpty || (Oct.enc r.line).isEmpty || (Oct.enc r.col).isEmpty || (Oct.enc r.count).isEmpty || decide (65536 < r.text.length) || Oct.badTexts r.texts
def big (r : Rp) : Bool := decide (4096 < r.texts.length) || decide (4096 < r.marks.length)
def enc (r : Rp) : List UInt8 := Oct.enc r.k ++ Oct.enc r.line ++ Oct.enc r.col ++ Oct.enc r.count ++ Oct.text r.text ++ (Oct.enc r.texts.length ++ Oct.texts r.texts) ++ (Oct.enc r.marks.length ++ Oct.texts (r.marks.map Mk.put))
def put (r : Rp) : List UInt8 := if big r || bad r then [] else enc r
def same (a b : Rp) : Bool := decide (a.k = b.k) && decide (a.line = b.line) && decide (a.col = b.col) && decide (a.count = b.count) && decide (a.text = b.text) && decide (a.texts = b.texts) && decide (a.marks.map Mk.put = b.marks.map Mk.put)
theorem same_self (a : Rp) : same a a = true := by simp [same]

theorem fin_none (x : Rp × List (List UInt8) × List UInt8 × Int) : (fin x).2 ≠ 0 → (fin x).1 = none_ := by
  unfold fin
  split
  · intro _; rfl
  · split
    · intro _; rfl
    · split
      · intro _; rfl
      · split
        · intro _; rfl
        · intro h; exact absurd rfl h
theorem get_none {s : List UInt8} {c : Rp} {e : Int} (h : get s = (c, e)) (he : e ≠ 0) : c = none_ := by
  have := fin_none (rd s)
  rw [show fin (rd s) = (c, e) from h] at this
  exact this he
theorem fin_err {c : Rp} {l : List (List UInt8)} {s : List UInt8} {e : Int} (h : e ≠ 0) : fin (c, l, s, e) = (none_, e) := if_pos h
theorem fin_code {c : Rp} {l : List (List UInt8)} {s : List UInt8} (h : c.k < 0 ∨ 20 < c.k) : fin (c, l, s, 0) = (none_, 2) := by
  unfold fin
  rw [if_neg (by simp), if_pos h]
theorem fin_form {c : Rp} {l : List (List UInt8)} {s : List UInt8} (hk : ¬ (c.k < 0 ∨ 20 < c.k)) (h : okM l = false) : fin (c, l, s, 0) = (none_, 2) := by
  unfold fin
  rw [if_neg (by simp), if_neg hk, if_pos h]
theorem fin_more {c : Rp} {l : List (List UInt8)} {s : List UInt8} (hk : ¬ (c.k < 0 ∨ 20 < c.k)) (h : okM l = true) (hs : s ≠ []) : fin (c, l, s, 0) = (none_, 4) := by
  unfold fin
  rw [if_neg (by simp), if_neg hk, if_neg (by rw [h]; simp), if_pos hs]
theorem fin_ok {c : Rp} {l : List (List UInt8)} (hk : ¬ (c.k < 0 ∨ 20 < c.k)) (h : okM l = true) : fin (c, l, [], 0) = ({ c with marks := marksOf l }, 0) := by
  unfold fin
  rw [if_neg (by simp), if_neg hk, if_neg (by rw [h]; simp), if_neg (by simp)]
theorem rd_of {s s0 s1 s2 s3 s4 s5 s6 : List UInt8} {e0 e1 e2 e3 e4 e5 e6 : Int} {k a b c : Int} {t : List UInt8} {ts l : List (List UInt8)}
    (h0 : Oct.rInt s 0 = (k, s0, e0)) (h1 : Oct.rInt s0 e0 = (a, s1, e1)) (h2 : Oct.rInt s1 e1 = (b, s2, e2)) (h3 : Oct.rInt s2 e2 = (c, s3, e3)) (h4 : Oct.rText s3 e3 = (t, s4, e4)) (h5 : Oct.rTexts 4096 s4 e4 = (ts, s5, e5)) (h6 : Oct.rTexts 4096 s5 e5 = (l, s6, e6)) :
    rd s = (⟨k, a, b, c, t, ts, []⟩, l, s6, e6) := by
  simp only [rd, h0, h1, h2, h3, h4, h5, h6]
theorem okM_put {l : List Nat} (h : ∀ n ∈ l, n < 18446744073709551616) : okM (l.map Mk.put) = true ∧ marksOf (l.map Mk.put) = l.map Mk.canon := by
  unfold okM marksOf
  constructor
  · rw [List.all_eq_true]
    intro x hx
    obtain ⟨n, hn, rfl⟩ := List.mem_map.1 hx
    rw [Mk.put_get n (h n hn)]
    rfl
  · rw [List.map_map]
    apply List.map_congr_left
    intro n hn
    show (Mk.get (Mk.put n)).1 = _
    rw [Mk.put_get n (h n hn)]
theorem put_marks {l : List (List UInt8)} (h : okM l = true) : (marksOf l).map Mk.put = l ∧ ∀ n ∈ marksOf l, n < 18446744073709551616 := by
  unfold okM at h
  rw [List.all_eq_true] at h
  unfold marksOf
  constructor
  · rw [List.map_map]
    refine (List.map_congr_left fun x hx => ?_).trans (List.map_id l)
    have := h x hx
    obtain ⟨⟨n, e⟩, hg⟩ : ∃ y, Mk.get x = y := ⟨_, rfl⟩
    rw [hg] at this
    obtain rfl : e = 0 := by simpa using this
    show Mk.put (Mk.get x).1 = x
    rw [hg]
    exact (Mk.get_ok hg).1.symm
  · intro n hn
    obtain ⟨x, hx, rfl⟩ := List.mem_map.1 hn
    have := h x hx
    obtain ⟨⟨n, e⟩, hg⟩ : ∃ y, Mk.get x = y := ⟨_, rfl⟩
    rw [hg] at this ⊢
    obtain rfl : e = 0 := by simpa using this
    exact (Mk.get_ok hg).2.1
theorem badTexts_puts (l : List Nat) : Oct.badTexts (l.map Mk.put) = false := by
  simp only [Oct.badTexts, List.any_eq_false, decide_eq_true_eq]
  intro s hs
  obtain ⟨n, -, rfl⟩ := List.mem_map.1 hs
  rw [Mk.put_length]
  decide
theorem bad_parts {r : Rp} (h : bad r = false) : (Oct.enc r.k).isEmpty = false ∧ (Oct.enc r.line).isEmpty = false ∧ (Oct.enc r.col).isEmpty = false ∧ (Oct.enc r.count).isEmpty = false ∧ r.text.length ≤ 65536 ∧ Oct.badTexts r.texts = false := by
  simp only [bad, Bool.or_eq_false_iff, decide_eq_false_iff_not] at h
  obtain ⟨⟨⟨⟨⟨h1, h2⟩, h3⟩, h4⟩, h5⟩, h6⟩ := h
  exact ⟨h1, h2, h3, h4, by omega, h6⟩
theorem big_parts {r : Rp} (h : big r = false) : r.texts.length ≤ 4096 ∧ r.marks.length ≤ 4096 := by
  simp only [big, Bool.or_eq_false_iff, decide_eq_false_iff_not] at h
  omega
theorem rd_enc (r : Rp) (h1 : big r = false) (h2 : bad r = false) : rd (enc r) = ({ r with marks := [] }, r.marks.map Mk.put, [], 0) := by
  obtain ⟨a1, a2, a3, a4, a5, a6⟩ := bad_parts h2
  obtain ⟨b1, b2⟩ := big_parts h1
  have e : enc r = Oct.enc r.k ++ (Oct.enc r.line ++ (Oct.enc r.col ++ (Oct.enc r.count ++ (Oct.text r.text ++ (Oct.enc r.texts.length ++ Oct.texts r.texts ++ (Oct.enc (r.marks.map Mk.put).length ++ Oct.texts (r.marks.map Mk.put) ++ [])))))) := by
    simp only [enc, List.append_assoc, List.append_nil, List.length_map]
  rw [e]
  exact rd_of (rInt_enc a1 _) (rInt_enc a2 _) (rInt_enc a3 _) (rInt_enc a4 _) (rText_text a5 _) (rTexts_list (by omega) (by omega) a6 _) (rTexts_list (by rw [List.length_map]; omega) (by rw [List.length_map]; omega) (badTexts_puts _) _)
theorem get_enc (r : Rp) (h1 : big r = false) (h2 : bad r = false) (hm : ∀ n ∈ r.marks, n < 18446744073709551616) : get (enc r) = if r.k < 0 ∨ 20 < r.k then (none_, 2) else ({ r with marks := r.marks.map Mk.canon }, 0) := by
  obtain ⟨m1, m2⟩ := okM_put hm
  rw [get, rd_enc r h1 h2]
  split
  · rename_i hk
    exact fin_code hk
  · rename_i hk
    have := fin_ok (c := { r with marks := [] }) hk m1
    rw [this, m2]
theorem enc_ne {r : Rp} (h : bad r = false) : enc r ≠ [] := by
  have h1 := (bad_parts h).1
  intro e
  unfold enc at e
  simp only [List.append_assoc, List.append_eq_nil_iff] at e
  rw [e.1] at h1
  simp at h1
theorem get_inv {s : List UInt8} {r : Rp} (h : get s = (r, 0)) : put r = s ∧ big r = false ∧ bad r = false ∧ (∀ n ∈ r.marks, n < 18446744073709551616) ∧ 0 ≤ r.k ∧ r.k ≤ 20 := by
  obtain ⟨⟨k, s0, e0⟩, h0⟩ : ∃ x, Oct.rInt s 0 = x := ⟨_, rfl⟩
  obtain ⟨⟨a, s1, e1⟩, h1⟩ : ∃ x, Oct.rInt s0 e0 = x := ⟨_, rfl⟩
  obtain ⟨⟨b, s2, e2⟩, h2⟩ : ∃ x, Oct.rInt s1 e1 = x := ⟨_, rfl⟩
  obtain ⟨⟨c, s3, e3⟩, h3⟩ : ∃ x, Oct.rInt s2 e2 = x := ⟨_, rfl⟩
  obtain ⟨⟨t, s4, e4⟩, h4⟩ : ∃ x, Oct.rText s3 e3 = x := ⟨_, rfl⟩
  obtain ⟨⟨ts, s5, e5⟩, h5⟩ : ∃ x, Oct.rTexts 4096 s4 e4 = x := ⟨_, rfl⟩
  obtain ⟨⟨l, s6, e6⟩, h6⟩ : ∃ x, Oct.rTexts 4096 s5 e5 = x := ⟨_, rfl⟩
  have hr := rd_of h0 h1 h2 h3 h4 h5 h6
  rw [get, hr] at h
  by_cases he : e6 = 0
  · subst he
    by_cases hk : k < 0 ∨ 20 < k
    · rw [fin_code hk] at h; simp at h
    · cases hm : okM l
      · rw [fin_form hk hm] at h; simp at h
      · by_cases hs : s6 = []
        · subst hs
          rw [fin_ok hk hm] at h
          simp only [Prod.mk.injEq, and_true] at h
          subst h
          obtain ⟨p1, p2⟩ := put_marks hm
          obtain ⟨rfl, rfl, q6, -⟩ := rTexts_inv h6
          obtain ⟨rfl, rfl, q5, w5⟩ := rTexts_inv h5
          obtain ⟨rfl, rfl, q4⟩ := rText_inv h4
          obtain ⟨rfl, rfl, q3⟩ := rInt_inv h3
          obtain ⟨rfl, rfl, q2⟩ := rInt_inv h2
          obtain ⟨rfl, rfl, q1⟩ := rInt_inv h1
          obtain ⟨-, rfl, q0⟩ := rInt_inv h0
          have hml : (marksOf l).length = l.length := by unfold marksOf; rw [List.length_map]
          have hbig : big ⟨k, a, b, c, t, ts, marksOf l⟩ = false := by
            simp only [big, hml, Bool.or_eq_false_iff, decide_eq_false_iff_not]
            omega
          have hbt : Oct.badTexts ts = false := by
            simp only [Oct.badTexts, List.any_eq_false, decide_eq_true_eq]
            intro x hx
            have := w5 x hx
            omega
          have hbad : bad ⟨k, a, b, c, t, ts, marksOf l⟩ = false := by
            simp only [bad, q0, q1, q2, q3, hbt, Bool.or_eq_false_iff, decide_eq_false_iff_not, and_true, true_and]
            omega
          refine ⟨?_, hbig, hbad, p2, by dsimp only; omega, by dsimp only; omega⟩
          unfold put
          rw [hbig, hbad]
          simp only [Bool.or_self, Bool.false_eq_true, if_false, enc, p1, hml, List.append_assoc, List.append_nil]
        · rw [fin_more hk hm hs] at h; simp at h
  · rw [fin_err he] at h
    simp only [Prod.mk.injEq] at h
    exact absurd h.2 he
theorem get_nil : get [] = (none_, 3) := rfl
end Rep
end Go.Proofs.Ytjhodcdjkokkoaa
