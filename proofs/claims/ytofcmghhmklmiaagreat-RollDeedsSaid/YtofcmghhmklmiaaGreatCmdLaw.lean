/- The plain laws of commands: their bytes, and what is read of bytes. No program is in sight here. -/
import Derived.Test.YtofcmghhmklmiaaGreatInAll
namespace Go.Proofs.YtofcmghhmklmiaaGreat

structure Cm where
  kind : Int
  who : List UInt8
  name : List UInt8
  other : List UInt8
  text : List UInt8
  word : List (List UInt8)
  n0 : Int
  n1 : Int
  n2 : Int
  n3 : Int
namespace Cmd
def letter (c : UInt8) : Bool := (decide (97 ≤ c.toNat) && decide (c.toNat ≤ 122)) || (decide (65 ≤ c.toNat) && decide (c.toNat ≤ 90))
def inName (c : UInt8) : Bool := letter c || (decide (48 ≤ c.toNat) && decide (c.toNat ≤ 57)) || decide (c.toNat = 95) || decide (c.toNat = 45)
/-- A good name. -/
def gn (l : List UInt8) : Bool := match l with
  | [] => false
  | c :: _ => decide (l.length ≤ 32) && letter c && l.all inName
def gnm (l : List UInt8) : Bool := l.isEmpty || gn l
def inNum (n : Int) : Bool := decide (-9007199254740992 ≤ n) && decide (n ≤ 9007199254740992)
def good (c : Cm) : Bool := decide (1 ≤ c.kind) && decide (c.kind ≤ 18) && gn c.who && gnm c.name && gnm c.other && decide (c.text.length ≤ 65536) && decide (c.word.length ≤ 64) && c.word.all (fun s => decide (s.length ≤ 16)) && inNum c.n0 && inNum c.n1 && inNum c.n2 && inNum c.n3
theorem good_parts {c : Cm} (h : good c = true) : (1 ≤ c.kind ∧ c.kind ≤ 18) ∧ gn c.who = true ∧ gnm c.name = true ∧ gnm c.other = true ∧ c.text.length ≤ 65536 ∧ c.word.length ≤ 64 ∧ (∀ s ∈ c.word, s.length ≤ 16) ∧ inNum c.n0 = true ∧ inNum c.n1 = true ∧ inNum c.n2 = true ∧ inNum c.n3 = true := by
  simp only [good, Bool.and_eq_true, decide_eq_true_eq, List.all_eq_true] at h
  obtain ⟨⟨⟨⟨⟨⟨⟨⟨⟨⟨⟨h1, h2⟩, h3⟩, h4⟩, h5⟩, h6⟩, h7⟩, h8⟩, h9⟩, h10⟩, h11⟩, h12⟩ := h
  exact ⟨⟨h1, h2⟩, h3, h4, h5, h6, h7, h8, h9, h10, h11, h12⟩
theorem gn_len {l : List UInt8} (h : gn l = true) : 0 < l.length ∧ l.length ≤ 32 := by
  cases l with
  | nil => simp [gn] at h
  | cons c l =>
    simp only [gn, Bool.and_eq_true, decide_eq_true_eq] at h
    exact ⟨by simp, h.1.1⟩
theorem gnm_len {l : List UInt8} (h : gnm l = true) : l.length ≤ 32 := by
  simp only [gnm, Bool.or_eq_true, List.isEmpty_iff] at h
  rcases h with rfl | h
  · simp
  · exact (gn_len h).2
theorem enc_num {n : Int} (h : inNum n = true) : (Oct.enc n).isEmpty = false := by
  rw [enc_empty]
  unfold inNum at h
  rw [h]; rfl
theorem enc_small {n : Int} (h1 : 0 ≤ n) (h2 : n ≤ 70000) : (Oct.enc n).isEmpty = false := by
  have := Oct.enc_ne (n := n) (by omega) (by omega)
  simpa using this

/-- A command's bytes. -/
def enc (c : Cm) : List UInt8 := Oct.enc c.kind ++ Oct.text c.who ++ Oct.text c.name ++ Oct.text c.other ++ Oct.text c.text ++ (Oct.enc c.word.length ++ Oct.texts c.word) ++ Oct.enc c.n0 ++ Oct.enc c.n1 ++ Oct.enc c.n2 ++ Oct.enc c.n3
def put (c : Cm) : List UInt8 := if good c then enc c else []
theorem enc_ne (c : Cm) (h : good c = true) : enc c ≠ [] := by
  have h1 := (good_parts h).1
  have := Oct.enc_ne (n := c.kind) (by omega) (by omega)
  intro e
  apply this
  unfold enc at e
  simp only [List.append_assoc, List.append_eq_nil_iff] at e
  exact e.1

/-- What is read of bytes: the fields, what is left, the first error. -/
def rd (s : List UInt8) : Cm × List UInt8 × Int :=
  let r0 := Oct.rInt s 0
  let r1 := Oct.rText r0.2.1 r0.2.2
  let r2 := Oct.rText r1.2.1 r1.2.2
  let r3 := Oct.rText r2.2.1 r2.2.2
  let r4 := Oct.rText r3.2.1 r3.2.2
  let r5 := Oct.rTexts 64 r4.2.1 r4.2.2
  let r6 := Oct.rInt r5.2.1 r5.2.2
  let r7 := Oct.rInt r6.2.1 r6.2.2
  let r8 := Oct.rInt r7.2.1 r7.2.2
  let r9 := Oct.rInt r8.2.1 r8.2.2
  (⟨r0.1, r1.1, r2.1, r3.1, r4.1, r5.1, r6.1, r7.1, r8.1, r9.1⟩, r9.2.1, r9.2.2)
def none_ : Cm := ⟨0, [], [], [], [], [], 0, 0, 0, 0⟩
def fin (x : Cm × List UInt8 × Int) : Cm × Int := if x.2.2 ≠ 0 then (none_, x.2.2) else if good x.1 = false then (none_, 2) else if x.2.1 ≠ [] then (none_, 4) else (x.1, 0)
def get (s : List UInt8) : Cm × Int := fin (rd s)

theorem rd_of {s s0 s1 s2 s3 s4 s5 s6 s7 s8 s9 : List UInt8} {e0 e1 e2 e3 e4 e5 e6 e7 e8 e9 : Int} {k n0 n1 n2 n3 : Int} {a b c d : List UInt8} {ws : List (List UInt8)}
    (h0 : Oct.rInt s 0 = (k, s0, e0)) (h1 : Oct.rText s0 e0 = (a, s1, e1)) (h2 : Oct.rText s1 e1 = (b, s2, e2)) (h3 : Oct.rText s2 e2 = (c, s3, e3)) (h4 : Oct.rText s3 e3 = (d, s4, e4)) (h5 : Oct.rTexts 64 s4 e4 = (ws, s5, e5))
    (h6 : Oct.rInt s5 e5 = (n0, s6, e6)) (h7 : Oct.rInt s6 e6 = (n1, s7, e7)) (h8 : Oct.rInt s7 e7 = (n2, s8, e8)) (h9 : Oct.rInt s8 e8 = (n3, s9, e9)) : rd s = (⟨k, a, b, c, d, ws, n0, n1, n2, n3⟩, s9, e9) := by
  simp only [rd, h0, h1, h2, h3, h4, h5, h6, h7, h8, h9]
theorem rd_enc (c : Cm) (h : good c = true) (r : List UInt8) : rd (enc c ++ r) = (c, r, 0) := by
  obtain ⟨⟨k1, k2⟩, h1, h2, h3, h4, h5, h6, h7, h8, h9, h10⟩ := good_parts h
  have l1 := (gn_len h1).2
  have l2 := gnm_len h2
  have l3 := gnm_len h3
  have hb : Oct.badTexts c.word = false := by
    simp only [Oct.badTexts, List.any_eq_false, decide_eq_true_eq]
    intro s hs
    have := h6 s hs
    omega
  have e : enc c ++ r = Oct.enc c.kind ++ (Oct.text c.who ++ (Oct.text c.name ++ (Oct.text c.other ++ (Oct.text c.text ++ (Oct.enc c.word.length ++ Oct.texts c.word ++ (Oct.enc c.n0 ++ (Oct.enc c.n1 ++ (Oct.enc c.n2 ++ (Oct.enc c.n3 ++ r))))))))) := by
    simp only [enc, List.append_assoc]
  rw [e]
  exact rd_of (rInt_enc (enc_small (by omega) (by omega)) _) (rText_text (by omega) _) (rText_text (by omega) _) (rText_text (by omega) _) (rText_text h4 _) (rTexts_list (by omega) (by omega) hb _)
    (rInt_enc (enc_num h7) _) (rInt_enc (enc_num h8) _) (rInt_enc (enc_num h9) _) (rInt_enc (enc_num h10) _)
theorem get_enc (c : Cm) (h : good c = true) : get (enc c) = (c, 0) := by
  have := rd_enc c h []
  rw [List.append_nil] at this
  rw [get, this, fin]
  simp [h]
theorem get_inv {s : List UInt8} {c : Cm} (h : get s = (c, 0)) : good c = true ∧ enc c = s := by
  obtain ⟨⟨k, s0, e0⟩, h0⟩ : ∃ x, Oct.rInt s 0 = x := ⟨_, rfl⟩
  obtain ⟨⟨a, s1, e1⟩, h1⟩ : ∃ x, Oct.rText s0 e0 = x := ⟨_, rfl⟩
  obtain ⟨⟨b, s2, e2⟩, h2⟩ : ∃ x, Oct.rText s1 e1 = x := ⟨_, rfl⟩
  obtain ⟨⟨o, s3, e3⟩, h3⟩ : ∃ x, Oct.rText s2 e2 = x := ⟨_, rfl⟩
  obtain ⟨⟨d, s4, e4⟩, h4⟩ : ∃ x, Oct.rText s3 e3 = x := ⟨_, rfl⟩
  obtain ⟨⟨ws, s5, e5⟩, h5⟩ : ∃ x, Oct.rTexts 64 s4 e4 = x := ⟨_, rfl⟩
  obtain ⟨⟨n0, s6, e6⟩, h6⟩ : ∃ x, Oct.rInt s5 e5 = x := ⟨_, rfl⟩
  obtain ⟨⟨n1, s7, e7⟩, h7⟩ : ∃ x, Oct.rInt s6 e6 = x := ⟨_, rfl⟩
  obtain ⟨⟨n2, s8, e8⟩, h8⟩ : ∃ x, Oct.rInt s7 e7 = x := ⟨_, rfl⟩
  obtain ⟨⟨n3, s9, e9⟩, h9⟩ : ∃ x, Oct.rInt s8 e8 = x := ⟨_, rfl⟩
  have hr := rd_of h0 h1 h2 h3 h4 h5 h6 h7 h8 h9
  rw [get, hr, fin] at h
  by_cases he : e9 = 0
  · subst he
    simp only [ne_eq, not_true_eq_false, if_false] at h
    by_cases hg : good ⟨k, a, b, o, d, ws, n0, n1, n2, n3⟩ = false
    · rw [if_pos hg] at h; simp at h
    · rw [if_neg hg] at h
      by_cases hs : s9 = []
      · rw [if_neg (by simpa using hs)] at h
        simp only [Prod.mk.injEq, and_true] at h
        subst h hs
        obtain ⟨rfl, rfl, -⟩ := rInt_inv h9
        obtain ⟨rfl, rfl, -⟩ := rInt_inv h8
        obtain ⟨rfl, rfl, -⟩ := rInt_inv h7
        obtain ⟨rfl, rfl, -⟩ := rInt_inv h6
        obtain ⟨rfl, rfl, -, -⟩ := rTexts_inv h5
        obtain ⟨rfl, rfl, -⟩ := rText_inv h4
        obtain ⟨rfl, rfl, -⟩ := rText_inv h3
        obtain ⟨rfl, rfl, -⟩ := rText_inv h2
        obtain ⟨rfl, rfl, -⟩ := rText_inv h1
        obtain ⟨-, rfl, -⟩ := rInt_inv h0
        refine ⟨by simpa using hg, ?_⟩
        simp only [enc, List.append_assoc, List.append_nil]
      · rw [if_pos hs] at h; simp at h
  · rw [if_pos he] at h
    simp only [Prod.mk.injEq] at h
    exact absurd h.2 he
theorem enc_inj {a b : Cm} (ha : good a = true) (hb : good b = true) (h : enc a = enc b) : a = b := by
  have h1 := get_enc a ha
  rw [h, get_enc b hb] at h1
  simp only [Prod.mk.injEq, and_true] at h1
  exact h1.symm
end Cmd
end Go.Proofs.YtofcmghhmklmiaaGreat
