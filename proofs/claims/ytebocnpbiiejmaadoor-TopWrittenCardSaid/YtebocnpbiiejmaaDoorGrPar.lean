/- The parser over what is printed: a proper tree's tokens are read as that tree. -/
import Derived.Test.YtebocnpbiiejmaaDoorGrLex
namespace Go.Proofs.YtebocnpbiiejmaaDoor
namespace Gr
/-- a measure of what is printed: what brackets cost, a sign, a leaf, and how kids are joined -/
structure Me where
  w : Nat
  m : Nat
  lf : Nat
  jn : Bool → List Nat → Nat
structure Mv where
  k : Nat
  put : Nat
  kid : Nat
namespace Mv
def item (M : Me) (p : Mv) : Nat := if p.k = 3 ∨ p.k = 4 then p.put + M.w else p.put
def row (M : Me) (p : Mv) : Nat := if p.k = 4 then p.put + M.w else p.put
def atom (M : Me) (p : Mv) : Nat :=
  if p.k = 1 ∨ p.k = 2 then p.put
  else if p.k = 5 then p.kid + M.w
  else if p.k = 6 then p.kid + M.w
  else p.put + M.w
def again (M : Me) (p : Mv) : Nat :=
  if p.k = 1 ∨ p.k = 2 ∨ p.k = 5 ∨ p.k = 6 then atom M p + M.m
  else p.put + M.w
end Mv
def mfirst (l : List Mv) : Mv :=
  match l with
  | [] => ⟨0, 0, 0⟩
  | a :: _ => a
def mbuild (M : Me) (k : Nat) (l : List Mv) : Mv :=
  ⟨k,
   if k = 1 then M.lf
   else if k = 2 then M.lf
   else if k = 3 then M.jn false (l.map (Mv.item M))
   else if k = 4 then M.jn true (l.map (Mv.row M))
   else if k = 5 then Mv.again M (mfirst l)
   else if k = 6 then Mv.again M (mfirst l)
   else Mv.atom M (mfirst l) + M.m,
   (mfirst l).put⟩
mutual
def me (M : Me) : Nd → Mv
  | .mk k _ l => mbuild M k (mes M l)
def mes (M : Me) : List Nd → List Mv
  | [] => []
  | a :: l => me M a :: mes M l
end
theorem mes_eq (M : Me) (l : List Nd) : mes M l = l.map (me M) := by
  induction l with
  | nil => rfl
  | cons a l ih =>
    show me M a :: mes M l = _
    rw [ih]
    rfl
def sumSep : List Nat → Nat
  | [] => 0
  | [a] => a
  | a :: b :: l => a + (1 + sumSep (b :: l))
/-- the number of tokens; how deep the brackets are -/
def ML : Me := ⟨2, 1, 1, fun b l => if b then sumSep l else l.sum⟩
def maxs : List Nat → Nat
  | [] => 0
  | a :: l => max a (maxs l)
def MD : Me := ⟨1, 0, 0, fun _ l => maxs l⟩
structure MvF (M : Me) (p : Mv) : Prop where
  f1 : p.k = 5 ∨ p.k = 6 → p.kid + M.m ≤ p.put
  f2 : Mv.again M p ≤ p.put + M.w
  f3 : p.put ≤ Mv.atom M p
theorem build_f {M : Me} (hm : M.m ≤ M.w) {k : Nat} {l : List Mv} (h : MvF M (mfirst l)) : MvF M (mbuild M k l) := by
  have h1 : (mbuild M k l).k = 5 ∨ (mbuild M k l).k = 6 → (mbuild M k l).kid + M.m ≤ (mbuild M k l).put := by
    intro hk
    have hk' : k = 5 ∨ k = 6 := hk
    have hp : (mbuild M k l).put = Mv.again M (mfirst l) := by
      unfold mbuild
      dsimp only
      rcases hk' with rfl | rfl <;> rfl
    rw [hp]
    show (mfirst l).put + M.m ≤ _
    unfold Mv.again
    split
    · have := h.f3
      omega
    · omega
  refine ⟨h1, ?_, ?_⟩
  · unfold Mv.again Mv.atom
    by_cases a1 : (mbuild M k l).k = 1 ∨ (mbuild M k l).k = 2
    · rw [if_pos (by rcases a1 with a | a <;> simp [a]), if_pos a1]
      omega
    · by_cases a5 : (mbuild M k l).k = 5
      · have := h1 (Or.inl a5)
        rw [if_pos (by simp [a5]), if_neg a1, if_pos a5]
        omega
      · by_cases a6 : (mbuild M k l).k = 6
        · have := h1 (Or.inr a6)
          rw [if_pos (by simp [a6]), if_neg a1, if_neg a5, if_pos a6]
          omega
        · rw [if_neg (by omega)]
          exact Nat.le_refl _
  · unfold Mv.atom
    by_cases a1 : (mbuild M k l).k = 1 ∨ (mbuild M k l).k = 2
    · rw [if_pos a1]
      exact Nat.le_refl _
    · rw [if_neg a1]
      have hq : k = 5 ∨ k = 6 → (mbuild M k l).put ≤ (mbuild M k l).kid + M.w := by
        intro hk'
        have hp : (mbuild M k l).put = Mv.again M (mfirst l) := by
          unfold mbuild
          dsimp only
          rcases hk' with rfl | rfl <;> rfl
        rw [hp]
        exact h.f2
      by_cases a5 : (mbuild M k l).k = 5
      · rw [if_pos a5]
        exact hq (Or.inl a5)
      · rw [if_neg a5]
        by_cases a6 : (mbuild M k l).k = 6
        · rw [if_pos a6]
          exact hq (Or.inr a6)
        · rw [if_neg a6]
          omega
mutual
theorem me_f (M : Me) (hm : M.m ≤ M.w) : ∀ d : Nd, MvF M (me M d)
  | .mk _ _ l => build_f hm (mes_f M hm l)
theorem mes_f (M : Me) (hm : M.m ≤ M.w) : ∀ l : List Nd, MvF M (mfirst (mes M l))
  | [] => ⟨fun h => absurd h (by show ¬ ((0 : Nat) = 5 ∨ (0 : Nat) = 6); decide), by show 0 + M.w ≤ 0 + M.w; exact Nat.le_refl _, Nat.zero_le _⟩
  | a :: _ => me_f M hm a
end
/-- the tokens' number -/
structure LenR (p : Mv) (q : Pr Tk) : Prop where
  k : p.k = q.k
  put : q.put.length = p.put
  kid : q.kid.length = p.kid
theorem wrap_len (a b : UInt8) (l : List Tk) : (Pr.wrap AT a b l).length = l.length + 2 := by
  show (sg a :: (l ++ [sg b])).length = _
  simp
theorem LenR.item {p : Mv} {q : Pr Tk} (h : LenR p q) : (Pr.item AT q).length = Mv.item ML p := by
  unfold Pr.item Mv.item
  rw [h.k]
  split
  · rw [wrap_len, h.put]; rfl
  · exact h.put
theorem LenR.row {p : Mv} {q : Pr Tk} (h : LenR p q) : (Pr.row AT q).length = Mv.row ML p := by
  unfold Pr.row Mv.row
  rw [h.k]
  split
  · rw [wrap_len, h.put]; rfl
  · exact h.put
theorem LenR.atom {p : Mv} {q : Pr Tk} (h : LenR p q) : (Pr.atom AT q).length = Mv.atom ML p := by
  unfold Pr.atom Mv.atom
  rw [h.k]
  split
  · exact h.put
  · split
    · rw [wrap_len, h.kid]; rfl
    · split
      · rw [wrap_len, h.kid]; rfl
      · rw [wrap_len, h.put]; rfl
theorem LenR.again {p : Mv} {q : Pr Tk} (h : LenR p q) (a m b : UInt8) : (Pr.again AT a m b q).length = Mv.again ML p := by
  unfold Pr.again Mv.again
  rw [h.k]
  split
  · rw [List.length_append, h.atom]; rfl
  · rw [wrap_len, h.put]; rfl
inductive LenRs : List Mv → List (Pr Tk) → Prop where
  | nil : LenRs [] []
  | cons {p q l m} : LenR p q → LenRs l m → LenRs (p :: l) (q :: m)
theorem LenRs.first {l : List Mv} {m : List (Pr Tk)} (h : LenRs l m) : LenR (mfirst l) (Gr.first m) := by
  cases h with
  | nil => exact ⟨rfl, rfl, rfl⟩
  | cons h _ => exact h
theorem LenRs.items {l : List Mv} {m : List (Pr Tk)} (h : LenRs l m) : (joined AT.sp (m.map (Pr.item AT))).length = (l.map (Mv.item ML)).sum := by
  induction h with
  | nil => rfl
  | cons h h2 ih =>
    cases h2 with
    | nil =>
      show (Pr.item AT _).length = Mv.item ML _ + 0
      rw [h.item]; rfl
    | cons h3 h4 =>
      show (Pr.item AT _ ++ ([] ++ joined AT.sp (_ :: _))).length = Mv.item ML _ + _
      rw [List.nil_append, List.length_append, h.item]
      exact congrArg _ ih
theorem LenRs.rows {l : List Mv} {m : List (Pr Tk)} (h : LenRs l m) : (joined (AT.sg 124) (m.map (Pr.row AT))).length = sumSep (l.map (Mv.row ML)) := by
  induction h with
  | nil => rfl
  | cons h h2 ih =>
    cases h2 with
    | nil => exact h.row
    | cons h3 h4 =>
      show (Pr.row AT _ ++ ([sg 124] ++ joined (AT.sg 124) (_ :: _))).length = Mv.row ML _ + (1 + sumSep (_ :: _))
      rw [List.length_append, List.length_append, h.row]
      exact congrArg _ (congrArg _ ih)
theorem build_len {k : Nat} {s : List UInt8} {l : List Mv} {m : List (Pr Tk)} (h : LenRs l m) : LenR (mbuild ML k l) (build AT k s m) := by
  refine ⟨rfl, ?_, h.first.put⟩
  unfold build mbuild
  dsimp only
  by_cases h1 : k = 1
  · rw [if_pos h1, if_pos h1]; rfl
  · rw [if_neg h1, if_neg h1]
    by_cases h2 : k = 2
    · rw [if_pos h2, if_pos h2]; rfl
    · rw [if_neg h2, if_neg h2]
      by_cases h3 : k = 3
      · rw [if_pos h3, if_pos h3]; exact h.items
      · rw [if_neg h3, if_neg h3]
        by_cases h4 : k = 4
        · rw [if_pos h4, if_pos h4]; exact h.rows
        · rw [if_neg h4, if_neg h4]
          by_cases h5 : k = 5
          · rw [if_pos h5, if_pos h5]; exact h.first.again _ _ _
          · rw [if_neg h5, if_neg h5]
            by_cases h6 : k = 6
            · rw [if_pos h6, if_pos h6]; exact h.first.again _ _ _
            · rw [if_neg h6, if_neg h6, List.length_append, h.first.atom]; rfl
mutual
theorem len_pr : ∀ d : Nd, LenR (me ML d) (pr AT d)
  | .mk _ _ l => build_len (len_prs l)
theorem len_prs : ∀ l : List Nd, LenRs (mes ML l) (prs AT l)
  | [] => LenRs.nil
  | a :: l => LenRs.cons (len_pr a) (len_prs l)
end

/-- what may stand behind an item, behind a row, behind a choice -/
def NoSuf (r : List Tk) : Prop := ∃ t l, r = t :: l ∧ t.k ≠ 0 ∧ t ≠ sg 63 ∧ t ≠ sg 42 ∧ t ≠ sg 43
def StopR (r : List Tk) : Prop := ∃ t l, r = t :: l ∧ t.k ≠ 0 ∧ t ≠ sg 63 ∧ t ≠ sg 42 ∧ t ≠ sg 43 ∧ t.k ≠ 1 ∧ t.k ≠ 2 ∧ t ≠ sg 40 ∧ t ≠ sg 91 ∧ t ≠ sg 123
def StopP (r : List Tk) : Prop := StopR r ∧ ∀ t l, r = t :: l → t ≠ sg 124
def Opn (r : List Tk) : Prop := ∃ t l, r = t :: l ∧ (t.k = 1 ∨ t.k = 2 ∨ t = sg 40 ∨ t = sg 91 ∨ t = sg 123)
theorem StopR.noSuf {r : List Tk} (h : StopR r) : NoSuf r := by
  obtain ⟨t, l, e, h1, h2, h3, h4, _⟩ := h
  exact ⟨t, l, e, h1, h2, h3, h4⟩
theorem Opn.noSuf {a r : List Tk} (h : Opn a) : NoSuf (a ++ r) := by
  obtain ⟨t, l, rfl, h⟩ := h
  refine ⟨t, l ++ r, rfl, ?_⟩
  rcases h with h | h | h | h | h
  · exact ⟨by omega, by rintro rfl; revert h; decide, by rintro rfl; revert h; decide, by rintro rfl; revert h; decide⟩
  · exact ⟨by omega, by rintro rfl; revert h; decide, by rintro rfl; revert h; decide, by rintro rfl; revert h; decide⟩
  · subst h; decide
  · subst h; decide
  · subst h; decide
theorem Opn.len {a : List Tk} (h : Opn a) : 1 ≤ a.length := by
  obtain ⟨t, l, rfl, _⟩ := h
  simp
theorem stop_sign (c : UInt8) (h : c = 124 ∨ c = 41 ∨ c = 93 ∨ c = 125 ∨ c = 59) (l : List Tk) : StopR (sg c :: l) := by
  refine ⟨_, _, rfl, ?_⟩
  rcases h with rfl | rfl | rfl | rfl | rfl <;> decide
theorem stopP_sign (c : UInt8) (h : c = 41 ∨ c = 93 ∨ c = 125 ∨ c = 59) (l : List Tk) : StopP (sg c :: l) := by
  refine ⟨stop_sign c (Or.inr h) l, ?_⟩
  intro t l' e
  cases e
  rcases h with rfl | rfl | rfl | rfl <;> decide
theorem suf_none {d : Nd} {r : List Tk} (h : NoSuf r) : suf d r = some (d, r) := by
  obtain ⟨t, l, rfl, h1, h2, h3, h4⟩ := h
  show (if t.k = 0 then none else if t = sg 63 then some (Nd.mk 5 [] [d], l) else if t = sg 42 then some (Nd.mk 6 [] [d], l) else if t = sg 43 then some (Nd.mk 7 [] [d], l) else some (d, t :: l)) = _
  rw [if_neg h1, if_neg h2, if_neg h3, if_neg h4]
theorem atom_none {n o : Nat} {r : List Tk} (hn : 1 ≤ n) (h : StopR r) : pAtom n o r = some (none, r) := by
  obtain ⟨t, l, rfl, h0, -, -, -, h1, h2, h3, h4, h5⟩ := h
  obtain ⟨m, rfl⟩ : ∃ m, n = m + 1 := ⟨n - 1, by omega⟩
  rw [pAtom]
  rw [if_neg h0, if_neg h1, if_neg h2, if_neg h3, if_neg h4, if_neg h5]
theorem row_stop {n o : Nat} {acc : List Nd} {r : List Tk} (hn : 2 ≤ n) (h : StopR r) : pRow n o acc r = some (one 3 acc, r) := by
  obtain ⟨m, rfl⟩ : ∃ m, n = m + 1 := ⟨n - 1, by omega⟩
  rw [pRow, atom_none (by omega) h]
theorem alts_stop {n o : Nat} {acc : List Nd} {r : List Tk} (hn : 1 ≤ n) (h : StopP r) : pAlts n o acc r = some (one 4 acc, r) := by
  obtain ⟨m, rfl⟩ : ∃ m, n = m + 1 := ⟨n - 1, by omega⟩
  obtain ⟨⟨t, l, rfl, h0, _⟩, h2⟩ := h
  have hs : sign 124 (t :: l) = some false := by
    show (if t.k = 0 then none else some (decide (t = sg 124))) = _
    rw [if_neg h0, decide_eq_false (h2 t l rfl)]
  rw [pAlts, hs]
/-- what is printed of a node is read as it -/
structure HD (d : Nd) : Prop where
  alt : ∀ o rest n, StopP rest → o + (me MD d).put ≤ 16 → 4 * (pr AT d).put.length + 8 ≤ n → pAlt n o ((pr AT d).put ++ rest) = some (d, rest)
  row : ∀ o rest n, StopR rest → o + Mv.row MD (me MD d) ≤ 16 → 4 * (Pr.row AT (pr AT d)).length + 6 ≤ n → pRow n o [] (Pr.row AT (pr AT d) ++ rest) = some (d, rest)
  item : ∀ o acc rest n, NoSuf rest → o + Mv.item MD (me MD d) ≤ 16 → 4 * (Pr.item AT (pr AT d)).length + 4 ≤ n → pRow (n + 1) o acc (Pr.item AT (pr AT d) ++ rest) = pRow n o (acc ++ [d]) rest
  atom : ∀ o rest n, o + Mv.atom MD (me MD d) ≤ 16 → 4 * (Pr.atom AT (pr AT d)).length + 2 ≤ n → pAtom n o (Pr.atom AT (pr AT d) ++ rest) = some (some d, rest)
  op : Opn (Pr.item AT (pr AT d))
def Alt (d : Nd) : Prop := ∀ o rest n, StopP rest → o + (me MD d).put ≤ 16 → 4 * (pr AT d).put.length + 8 ≤ n → pAlt n o ((pr AT d).put ++ rest) = some (d, rest)
theorem around_of {d : Nd} (h : Alt d) (e : UInt8) (he : e = 41 ∨ e = 93 ∨ e = 125) {o n : Nat} {rest : List Tk} (ho : o + ((me MD d).put + 1) ≤ 16) (hn : 4 * ((pr AT d).put.length + 2) + 1 ≤ n) :
    pAround n o e ((pr AT d).put ++ ([sg e] ++ rest)) = some (d, rest) := by
  obtain ⟨m, rfl⟩ : ∃ m, n = m + 1 := ⟨n - 1, by omega⟩
  rw [pAround, if_neg (by omega), h (o + 1) _ m (show StopP ([sg e] ++ rest) from stopP_sign e (by rcases he with h | h | h <;> simp [h]) rest) (by omega) (by omega)]
  dsimp only
  have ht : take e ([sg e] ++ rest) = some rest := by
    show (match (if (sg e).k = 0 then none else some (decide (sg e = sg e))) with | some true => some rest | _ => none) = _
    rw [if_neg (show ¬ (sg e).k = 0 by show ¬ (3 : Nat) = 0; decide), decide_eq_true rfl]
  rw [ht]
  rfl
theorem wrap_at (a b : UInt8) (l rest : List Tk) : Pr.wrap AT a b l ++ rest = sg a :: (l ++ ([sg b] ++ rest)) := by
  show sg a :: (l ++ [sg b] ++ rest) = _
  rw [List.append_assoc]
theorem atom40 {d : Nd} (h : Alt d) {o n : Nat} {rest : List Tk} (ho : o + ((me MD d).put + 1) ≤ 16) (hn : 4 * ((pr AT d).put.length + 2) + 2 ≤ n) : pAtom n o (Pr.wrap AT 40 41 (pr AT d).put ++ rest) = some (some d, rest) := by
  obtain ⟨m, rfl⟩ : ∃ m, n = m + 1 := ⟨n - 1, by omega⟩
  rw [wrap_at, pAtom]
  rw [if_neg (show ¬ (sg 40).k = 0 by decide), if_neg (show ¬ (sg 40).k = 1 by decide), if_neg (show ¬ (sg 40).k = 2 by decide), if_pos rfl, around_of h 41 (Or.inl rfl) ho (by omega)]
  rfl
theorem atom91 {d : Nd} (h : Alt d) {o n : Nat} {rest : List Tk} (ho : o + ((me MD d).put + 1) ≤ 16) (hn : 4 * ((pr AT d).put.length + 2) + 2 ≤ n) : pAtom n o (Pr.wrap AT 91 93 (pr AT d).put ++ rest) = some (some (.mk 5 [] [d]), rest) := by
  obtain ⟨m, rfl⟩ : ∃ m, n = m + 1 := ⟨n - 1, by omega⟩
  rw [wrap_at, pAtom]
  rw [if_neg (show ¬ (sg 91).k = 0 by decide), if_neg (show ¬ (sg 91).k = 1 by decide), if_neg (show ¬ (sg 91).k = 2 by decide), if_neg (show ¬ sg 91 = sg 40 by decide), if_pos rfl, around_of h 93 (Or.inr (Or.inl rfl)) ho (by omega)]
  rfl
theorem atom123 {d : Nd} (h : Alt d) {o n : Nat} {rest : List Tk} (ho : o + ((me MD d).put + 1) ≤ 16) (hn : 4 * ((pr AT d).put.length + 2) + 2 ≤ n) : pAtom n o (Pr.wrap AT 123 125 (pr AT d).put ++ rest) = some (some (.mk 6 [] [d]), rest) := by
  obtain ⟨m, rfl⟩ : ∃ m, n = m + 1 := ⟨n - 1, by omega⟩
  rw [wrap_at, pAtom]
  rw [if_neg (show ¬ (sg 123).k = 0 by decide), if_neg (show ¬ (sg 123).k = 1 by decide), if_neg (show ¬ (sg 123).k = 2 by decide), if_neg (show ¬ sg 123 = sg 40 by decide), if_neg (show ¬ sg 123 = sg 91 by decide), if_pos rfl, around_of h 125 (Or.inr (Or.inr rfl)) ho (by omega)]
  rfl
theorem alt_of_row {d : Nd} (hk : d.k ≠ 4) (hr : ∀ o rest n, StopR rest → o + Mv.row MD (me MD d) ≤ 16 → 4 * (Pr.row AT (pr AT d)).length + 6 ≤ n → pRow n o [] (Pr.row AT (pr AT d) ++ rest) = some (d, rest)) : Alt d := by
  intro o rest n hs ho hn
  obtain ⟨k, s, l⟩ := d
  have hk' : ¬ k = 4 := hk
  have e1 : Pr.row AT (pr AT (.mk k s l)) = (pr AT (.mk k s l)).put := if_neg hk'
  have e2 : Mv.row MD (me MD (.mk k s l)) = (me MD (.mk k s l)).put := if_neg hk'
  rw [e1, e2] at hr
  obtain ⟨m, rfl⟩ : ∃ m, n = m + 1 := ⟨n - 1, by omega⟩
  rw [pAlt, hr o rest m hs.1 ho (by omega)]
  dsimp only
  rw [alts_stop (by omega) hs]
  rfl
theorem row_of_item {d : Nd} (hk : d.k ≠ 3) (hi : ∀ o acc rest n, NoSuf rest → o + Mv.item MD (me MD d) ≤ 16 → 4 * (Pr.item AT (pr AT d)).length + 4 ≤ n → pRow (n + 1) o acc (Pr.item AT (pr AT d) ++ rest) = pRow n o (acc ++ [d]) rest) :
    ∀ o rest n, StopR rest → o + Mv.row MD (me MD d) ≤ 16 → 4 * (Pr.row AT (pr AT d)).length + 6 ≤ n → pRow n o [] (Pr.row AT (pr AT d) ++ rest) = some (d, rest) := by
  intro o rest n hs ho hn
  obtain ⟨k, s, l⟩ := d
  have hk' : ¬ k = 3 := hk
  have e1 : Pr.item AT (pr AT (.mk k s l)) = Pr.row AT (pr AT (.mk k s l)) := by
    show (if k = 3 ∨ k = 4 then _ else _) = (if k = 4 then _ else _)
    by_cases h4 : k = 4
    · rw [if_pos (Or.inr h4), if_pos h4]
    · rw [if_neg (by omega), if_neg h4]
  have e2 : Mv.item MD (me MD (.mk k s l)) = Mv.row MD (me MD (.mk k s l)) := by
    show (if k = 3 ∨ k = 4 then _ else _) = (if k = 4 then _ else _)
    by_cases h4 : k = 4
    · rw [if_pos (Or.inr h4), if_pos h4]
    · rw [if_neg (by omega), if_neg h4]
  rw [e1, e2] at hi
  obtain ⟨m, rfl⟩ : ∃ m, n = m + 1 := ⟨n - 1, by omega⟩
  rw [hi o [] rest m hs.noSuf ho (by omega), row_stop (by omega) hs]
  rfl
/-- an item that is an atom with nothing behind it -/
theorem item_plain {d d1 : Nd} {l rest : List Tk} {o n : Nat} {acc : List Nd} (ha : pAtom n o (l ++ rest) = some (some d1, rest)) (hs : NoSuf rest) (e : d1 = d) : pRow (n + 1) o acc (l ++ rest) = pRow n o (acc ++ [d]) rest := by
  subst e
  rw [pRow, ha]
  dsimp only
  rw [suf_none hs]
theorem joined_cons {α : Type} (sep a : List α) (l : List (List α)) : joined sep (a :: l) = a ++ l.flatMap (fun x => sep ++ x) := by
  induction l generalizing a with
  | nil => exact (List.append_nil a).symm
  | cons b l ih =>
    show a ++ (sep ++ joined sep (b :: l)) = _
    rw [ih, List.flatMap_cons, List.append_assoc]
theorem maxs_le {l : List Nat} {x : Nat} (h : x ∈ l) : x ≤ maxs l := by
  induction l with
  | nil => cases h
  | cons a l ih =>
    show x ≤ max a (maxs l)
    rcases List.mem_cons.mp h with rfl | h
    · exact Nat.le_max_left _ _
    · exact Nat.le_trans (ih h) (Nat.le_max_right _ _)
theorem row_items {o : Nat} {rest : List Tk} (hs : StopR rest) : ∀ (l : List Nd) (acc : List Nd) (n : Nat), (∀ x ∈ l, HD x) → o + maxs ((l.map (me MD)).map (Mv.item MD)) ≤ 16 →
    4 * (joined AT.sp ((l.map (pr AT)).map (Pr.item AT))).length + 6 ≤ n → pRow n o acc (joined AT.sp ((l.map (pr AT)).map (Pr.item AT)) ++ rest) = some (one 3 (acc ++ l), rest) := by
  intro l
  induction l with
  | nil =>
    intro acc n _ _ hn
    show pRow n o acc rest = _
    rw [row_stop (by omega) hs, List.append_nil]
  | cons a l ih =>
    intro acc n hl ho hn
    have ha := hl a (List.mem_cons_self ..)
    have ej : joined AT.sp (((a :: l).map (pr AT)).map (Pr.item AT)) = Pr.item AT (pr AT a) ++ joined AT.sp ((l.map (pr AT)).map (Pr.item AT)) := by
      cases l with
      | nil => exact (List.append_nil _).symm
      | cons b l => rfl
    rw [ej] at hn ⊢
    have h1 := ha.op.len
    have hm : maxs (((a :: l).map (me MD)).map (Mv.item MD)) = max (Mv.item MD (me MD a)) (maxs ((l.map (me MD)).map (Mv.item MD))) := rfl
    rw [hm] at ho
    rw [List.length_append] at hn
    obtain ⟨m, rfl⟩ : ∃ m, n = m + 1 := ⟨n - 1, by omega⟩
    have hns : NoSuf (joined AT.sp ((l.map (pr AT)).map (Pr.item AT)) ++ rest) := by
      cases l with
      | nil => exact hs.noSuf
      | cons b l =>
        have hb := (hl b (by simp)).op
        have : joined AT.sp (((b :: l).map (pr AT)).map (Pr.item AT)) = Pr.item AT (pr AT b) ++ joined AT.sp ((l.map (pr AT)).map (Pr.item AT)) := by
          cases l with
          | nil => exact (List.append_nil _).symm
          | cons c l => rfl
        rw [this, List.append_assoc]
        exact hb.noSuf
    rw [List.append_assoc, ha.item o acc _ m hns (by omega) (by omega), ih (acc ++ [a]) m (fun x hx => hl x (List.mem_cons_of_mem _ hx)) (by omega) (by omega), List.append_assoc]
    rfl
theorem alts_rows {o : Nat} {rest : List Tk} (hs : StopP rest) : ∀ (l : List Nd) (acc : List Nd) (n : Nat), (∀ x ∈ l, HD x) → (∀ x ∈ l, o + Mv.row MD (me MD x) ≤ 16) →
    4 * (l.flatMap (fun x => [sg 124] ++ Pr.row AT (pr AT x))).length + 6 ≤ n → pAlts n o acc (l.flatMap (fun x => [sg 124] ++ Pr.row AT (pr AT x)) ++ rest) = some (one 4 (acc ++ l), rest) := by
  intro l
  induction l with
  | nil =>
    intro acc n _ _ hn
    show pAlts n o acc rest = _
    rw [alts_stop (by omega) hs, List.append_nil]
  | cons a l ih =>
    intro acc n hl ho hn
    have ha := hl a (List.mem_cons_self ..)
    rw [List.flatMap_cons] at hn ⊢
    rw [List.length_append, List.length_append] at hn
    have h1 : ([sg 124] : List Tk).length = 1 := rfl
    obtain ⟨m, rfl⟩ : ∃ m, n = m + 1 := ⟨n - 1, by omega⟩
    rw [List.append_assoc, List.append_assoc]
    have hsg : sign 124 ([sg 124] ++ (Pr.row AT (pr AT a) ++ (l.flatMap (fun x => [sg 124] ++ Pr.row AT (pr AT x)) ++ rest))) = some true := by
      show (if (sg 124).k = 0 then none else some (decide (sg 124 = sg 124))) = _
      rw [if_neg (show ¬ (sg 124).k = 0 by decide), decide_eq_true rfl]
    have hst : StopR (l.flatMap (fun x => [sg 124] ++ Pr.row AT (pr AT x)) ++ rest) := by
      cases l with
      | nil => exact hs.1
      | cons b l => exact stop_sign 124 (Or.inl rfl) _
    rw [pAlts, hsg]
    show (match pRow m o [] (Pr.row AT (pr AT a) ++ (l.flatMap (fun x => [sg 124] ++ Pr.row AT (pr AT x)) ++ rest)) with
      | none => none
      | some (d, r) => pAlts m o (acc ++ [d]) r) = _
    rw [ha.row o _ m hst (ho a (List.mem_cons_self ..)) (by omega)]
    dsimp only
    have := ih (acc ++ [a]) m (fun x hx => hl x (List.mem_cons_of_mem _ hx)) (fun x hx => ho x (List.mem_cons_of_mem _ hx)) (by omega)
    rw [List.append_assoc] at this
    exact this
theorem one_ne {k : Nat} {l : List Nd} (h : l.length ≠ 1) : one k l = .mk k [] l := by
  match l with
  | [] => rfl
  | [a] => exact absurd rfl h
  | _ :: _ :: _ => rfl
theorem node_hd {k : Nat} {s : List UInt8} {l : List Nd} (ho : okNode k s l.length = true) (hl : ∀ x ∈ l, HD x) : HD (.mk k s l) := by
  unfold okNode at ho
  by_cases h1 : k = 1
  · subst h1
    rw [if_pos rfl, Bool.and_eq_true] at ho
    obtain rfl : l = [] := List.length_eq_zero_iff.mp (of_decide_eq_true ho.2)
    have hat : ∀ o rest n, o + Mv.atom MD (me MD (.mk 1 s [])) ≤ 16 → 4 * (Pr.atom AT (pr AT (.mk 1 s []))).length + 2 ≤ n → pAtom n o (Pr.atom AT (pr AT (.mk 1 s [])) ++ rest) = some (some (.mk 1 s []), rest) := by
      intro o rest n _ hn
      obtain ⟨m, rfl⟩ : ∃ m, n = m + 1 := ⟨n - 1, by omega⟩
      show pAtom (m + 1) o (⟨1, s⟩ :: rest) = _
      rw [pAtom]
      rfl
    have hit : ∀ o acc rest n, NoSuf rest → o + Mv.item MD (me MD (.mk 1 s [])) ≤ 16 → 4 * (Pr.item AT (pr AT (.mk 1 s []))).length + 4 ≤ n → pRow (n + 1) o acc (Pr.item AT (pr AT (.mk 1 s [])) ++ rest) = pRow n o (acc ++ [.mk 1 s []]) rest :=
      fun o acc rest n hs h1 hn => item_plain (l := Pr.item AT (pr AT (.mk 1 s []))) (hat o rest n h1 (Nat.le_trans (Nat.add_le_add_left (by decide) _) hn)) hs rfl
    have hro := row_of_item (d := .mk 1 s []) (show (1 : Nat) ≠ 3 by decide) hit
    exact ⟨alt_of_row (d := .mk 1 s []) (show (1 : Nat) ≠ 4 by decide) hro, hro, hit, hat, ⟨_, _, rfl, Or.inl rfl⟩⟩
  · rw [if_neg h1] at ho
    by_cases h2 : k = 2
    · subst h2
      rw [if_pos rfl, Bool.and_eq_true] at ho
      obtain rfl : l = [] := List.length_eq_zero_iff.mp (of_decide_eq_true ho.2)
      have hat : ∀ o rest n, o + Mv.atom MD (me MD (.mk 2 s [])) ≤ 16 → 4 * (Pr.atom AT (pr AT (.mk 2 s []))).length + 2 ≤ n → pAtom n o (Pr.atom AT (pr AT (.mk 2 s [])) ++ rest) = some (some (.mk 2 s []), rest) := by
        intro o rest n _ hn
        obtain ⟨m, rfl⟩ : ∃ m, n = m + 1 := ⟨n - 1, by omega⟩
        show pAtom (m + 1) o (⟨2, s⟩ :: rest) = _
        rw [pAtom]
        rfl
      have hit : ∀ o acc rest n, NoSuf rest → o + Mv.item MD (me MD (.mk 2 s [])) ≤ 16 → 4 * (Pr.item AT (pr AT (.mk 2 s []))).length + 4 ≤ n → pRow (n + 1) o acc (Pr.item AT (pr AT (.mk 2 s [])) ++ rest) = pRow n o (acc ++ [.mk 2 s []]) rest :=
        fun o acc rest n hs h1 hn => item_plain (l := Pr.item AT (pr AT (.mk 2 s []))) (hat o rest n h1 (Nat.le_trans (Nat.add_le_add_left (by decide) _) hn)) hs rfl
      have hro := row_of_item (d := .mk 2 s []) (show (2 : Nat) ≠ 3 by decide) hit
      exact ⟨alt_of_row (d := .mk 2 s []) (show (2 : Nat) ≠ 4 by decide) hro, hro, hit, hat, ⟨_, _, rfl, Or.inr (Or.inl rfl)⟩⟩
    · rw [if_neg h2, Bool.and_eq_true] at ho
      obtain ⟨ho, hs0⟩ := ho
      obtain rfl : s = [] := of_decide_eq_true hs0
      by_cases h3 : k = 3
      · subst h3
        rw [if_pos rfl] at ho
        have hro : ∀ o rest n, StopR rest → o + Mv.row MD (me MD (.mk 3 [] l)) ≤ 16 → 4 * (Pr.row AT (pr AT (.mk 3 [] l))).length + 6 ≤ n → pRow n o [] (Pr.row AT (pr AT (.mk 3 [] l)) ++ rest) = some (.mk 3 [] l, rest) := by
          have e1 : Pr.row AT (pr AT (.mk 3 [] l)) = joined AT.sp ((l.map (pr AT)).map (Pr.item AT)) := by
            rw [← prs_eq]; rfl
          have e2 : Mv.row MD (me MD (.mk 3 [] l)) = maxs ((l.map (me MD)).map (Mv.item MD)) := by
            rw [← mes_eq]; rfl
          rw [e1, e2]
          intro o rest n hs hd hn
          rw [row_items hs l [] n hl hd hn, List.nil_append, one_ne (of_decide_eq_true ho)]
        have hal := alt_of_row (d := .mk 3 [] l) (show (3 : Nat) ≠ 4 by decide) hro
        have hat : ∀ o rest n, o + Mv.atom MD (me MD (.mk 3 [] l)) ≤ 16 → 4 * (Pr.atom AT (pr AT (.mk 3 [] l))).length + 2 ≤ n → pAtom n o (Pr.atom AT (pr AT (.mk 3 [] l)) ++ rest) = some (some (.mk 3 [] l), rest) := by
          intro o rest n hd hn
          have e1 : Pr.atom AT (pr AT (.mk 3 [] l)) = Pr.wrap AT 40 41 (pr AT (.mk 3 [] l)).put := rfl
          rw [e1] at hn ⊢
          rw [wrap_len] at hn
          exact atom40 hal hd hn
        exact ⟨hal, hro, fun o acc rest n hs hd hn => item_plain (l := Pr.item AT (pr AT (.mk 3 [] l))) (hat o rest n hd (by
          have e : (Pr.atom AT (pr AT (.mk 3 [] l))).length = (Pr.item AT (pr AT (.mk 3 [] l))).length := rfl
          omega)) hs rfl, hat, ⟨sg 40, _, rfl, Or.inr (Or.inr (Or.inl rfl))⟩⟩
      · rw [if_neg h3] at ho
        by_cases h4 : k = 4
        · subst h4
          rw [if_pos rfl] at ho
          have hlen : 1 < l.length := of_decide_eq_true ho
          have hal : Alt (.mk 4 [] l) := by
            intro o rest n hs hd hn
            match l, hl, hlen, hd, hn with
            | a :: l, hl, hlen, hd, hn =>
              have e1 : (pr AT (.mk 4 [] (a :: l))).put = Pr.row AT (pr AT a) ++ l.flatMap (fun x => [sg 124] ++ Pr.row AT (pr AT x)) := by
                show joined (AT.sg 124) ((prs AT (a :: l)).map (Pr.row AT)) = _
                rw [prs_eq, List.map_cons, List.map_cons, joined_cons, List.map_map, List.flatMap_map]
                rfl
              have e2 : (me MD (.mk 4 [] (a :: l))).put = maxs (((a :: l).map (me MD)).map (Mv.row MD)) := by
                rw [← mes_eq]; rfl
              rw [e1] at hn ⊢
              rw [e2] at hd
              rw [List.length_append] at hn
              obtain ⟨m, rfl⟩ : ∃ m, n = m + 1 := ⟨n - 1, by omega⟩
              have hst : StopR (l.flatMap (fun x => [sg 124] ++ Pr.row AT (pr AT x)) ++ rest) := by
                cases l with
                | nil => exact hs.1
                | cons b l => exact stop_sign 124 (Or.inl rfl) _
              have hdx : ∀ x ∈ a :: l, o + Mv.row MD (me MD x) ≤ 16 := fun x hx => by
                have := maxs_le (List.mem_map_of_mem (f := Mv.row MD) (List.mem_map_of_mem (f := me MD) hx))
                omega
              rw [List.append_assoc, pAlt, (hl a (List.mem_cons_self ..)).row o _ m hst (hdx a (List.mem_cons_self ..)) (by omega)]
              dsimp only
              rw [alts_rows hs l [a] m (fun x hx => hl x (List.mem_cons_of_mem _ hx)) (fun x hx => hdx x (List.mem_cons_of_mem _ hx)) (by omega)]
              show some (one 4 (a :: l), rest) = _
              rw [one_ne (by omega)]
          have hat : ∀ o rest n, o + Mv.atom MD (me MD (.mk 4 [] l)) ≤ 16 → 4 * (Pr.atom AT (pr AT (.mk 4 [] l))).length + 2 ≤ n → pAtom n o (Pr.atom AT (pr AT (.mk 4 [] l)) ++ rest) = some (some (.mk 4 [] l), rest) := by
            intro o rest n hd hn
            have e1 : Pr.atom AT (pr AT (.mk 4 [] l)) = Pr.wrap AT 40 41 (pr AT (.mk 4 [] l)).put := rfl
            rw [e1] at hn ⊢
            rw [wrap_len] at hn
            exact atom40 hal hd hn
          have hit : ∀ o acc rest n, NoSuf rest → o + Mv.item MD (me MD (.mk 4 [] l)) ≤ 16 → 4 * (Pr.item AT (pr AT (.mk 4 [] l))).length + 4 ≤ n → pRow (n + 1) o acc (Pr.item AT (pr AT (.mk 4 [] l)) ++ rest) = pRow n o (acc ++ [.mk 4 [] l]) rest :=
            fun o acc rest n hs hd hn => item_plain (l := Pr.item AT (pr AT (.mk 4 [] l))) (hat o rest n hd (by
              have e : (Pr.atom AT (pr AT (.mk 4 [] l))).length = (Pr.item AT (pr AT (.mk 4 [] l))).length := rfl
              omega)) hs rfl
          exact ⟨hal, row_of_item (d := .mk 4 [] l) (show (4 : Nat) ≠ 3 by decide) hit, hit, hat, ⟨sg 40, _, rfl, Or.inr (Or.inr (Or.inl rfl))⟩⟩
        · rw [if_neg h4] at ho
          by_cases h5 : k = 5 ∨ k = 6 ∨ k = 7
          · rw [if_pos h5] at ho
            obtain ⟨x, rfl⟩ : ∃ x, l = [x] := List.length_eq_one_iff.mp (of_decide_eq_true ho)
            have hx := hl x (List.mem_cons_self ..)
            have hop : Opn (Pr.atom AT (pr AT x)) := by
              obtain ⟨kx, sx, lx⟩ := x
              show Opn (if kx = 1 ∨ kx = 2 then _ else _)
              by_cases a1 : kx = 1
              · subst a1
                exact ⟨_, _, rfl, Or.inl rfl⟩
              · by_cases a2 : kx = 2
                · subst a2
                  exact ⟨_, _, rfl, Or.inr (Or.inl rfl)⟩
                · rw [if_neg (by omega)]
                  show Opn (if kx = 5 then _ else if kx = 6 then _ else _)
                  split
                  · exact ⟨sg 91, _, rfl, Or.inr (Or.inr (Or.inr (Or.inl rfl)))⟩
                  · split
                    · exact ⟨sg 123, _, rfl, Or.inr (Or.inr (Or.inr (Or.inr rfl)))⟩
                    · exact ⟨sg 40, _, rfl, Or.inr (Or.inr (Or.inl rfl))⟩
            have hopm : ∀ c, Opn (Pr.atom AT (pr AT x) ++ [sg c]) := fun c => by
              obtain ⟨t, l, e, h⟩ := hop
              exact ⟨t, l ++ [sg c], by rw [e]; rfl, h⟩
            by_cases h57 : k = 7
            · subst h57
              have hit : ∀ o acc rest n, NoSuf rest → o + Mv.item MD (me MD (.mk 7 [] [x])) ≤ 16 → 4 * (Pr.item AT (pr AT (.mk 7 [] [x]))).length + 4 ≤ n → pRow (n + 1) o acc (Pr.item AT (pr AT (.mk 7 [] [x])) ++ rest) = pRow n o (acc ++ [.mk 7 [] [x]]) rest := by
                have e1 : Pr.item AT (pr AT (.mk 7 [] [x])) = Pr.atom AT (pr AT x) ++ [sg 43] := rfl
                have e2 : Mv.item MD (me MD (.mk 7 [] [x])) = Mv.atom MD (me MD x) + 0 := rfl
                rw [e1, e2]
                intro o acc rest n hs hd hn
                rw [List.length_append] at hn
                rw [List.append_assoc, pRow, hx.atom o _ n (by omega) (by omega)]
                rfl
              have hro := row_of_item (d := .mk 7 [] [x]) (show (7 : Nat) ≠ 3 by decide) hit
              have hal := alt_of_row (d := .mk 7 [] [x]) (show (7 : Nat) ≠ 4 by decide) hro
              refine ⟨hal, hro, hit, ?_, hopm 43⟩
              intro o rest n hd hn
              have e1 : Pr.atom AT (pr AT (.mk 7 [] [x])) = Pr.wrap AT 40 41 (pr AT (.mk 7 [] [x])).put := rfl
              rw [e1] at hn ⊢
              rw [wrap_len] at hn
              exact atom40 hal hd hn
            · by_cases h55 : k = 5
              · subst h55
                have hit : ∀ o acc rest n, NoSuf rest → o + Mv.item MD (me MD (.mk 5 [] [x])) ≤ 16 → 4 * (Pr.item AT (pr AT (.mk 5 [] [x]))).length + 4 ≤ n → pRow (n + 1) o acc (Pr.item AT (pr AT (.mk 5 [] [x])) ++ rest) = pRow n o (acc ++ [.mk 5 [] [x]]) rest := by
                  have e1 : Pr.item AT (pr AT (.mk 5 [] [x])) = Pr.again AT 91 63 93 (pr AT x) := rfl
                  have e2 : Mv.item MD (me MD (.mk 5 [] [x])) = Mv.again MD (me MD x) := rfl
                  rw [e1, e2]
                  intro o acc rest n hs hd hn
                  have ek : (me MD x).k = (pr AT x).k := by cases x; rfl
                  unfold Pr.again at hn ⊢
                  unfold Mv.again at hd
                  rw [ek] at hd
                  split at hn
                  · rename_i hc
                    rw [if_pos hc] at hd ⊢
                    rw [List.length_append] at hn
                    rw [List.append_assoc, pRow, hx.atom o _ n (by omega) (by omega)]
                    rfl
                  · rename_i hc
                    rw [if_neg hc] at hd ⊢
                    rw [wrap_len] at hn
                    exact item_plain (l := Pr.wrap AT 91 93 (pr AT x).put) (atom91 hx.alt hd (by omega)) hs rfl
                have hro := row_of_item (d := .mk 5 [] [x]) (show (5 : Nat) ≠ 3 by decide) hit
                have hal := alt_of_row (d := .mk 5 [] [x]) (show (5 : Nat) ≠ 4 by decide) hro
                refine ⟨hal, hro, hit, ?_, ?_⟩
                · intro o rest n hd hn
                  have e1 : Pr.atom AT (pr AT (.mk 5 [] [x])) = Pr.wrap AT 91 93 (pr AT x).put := rfl
                  rw [e1] at hn ⊢
                  rw [wrap_len] at hn
                  exact atom91 hx.alt hd hn
                · show Opn (Pr.again AT 91 63 93 (pr AT x))
                  unfold Pr.again
                  split
                  · exact hopm 63
                  · exact ⟨sg 91, _, rfl, Or.inr (Or.inr (Or.inr (Or.inl rfl)))⟩
              · obtain rfl : k = 6 := by omega
                have hit : ∀ o acc rest n, NoSuf rest → o + Mv.item MD (me MD (.mk 6 [] [x])) ≤ 16 → 4 * (Pr.item AT (pr AT (.mk 6 [] [x]))).length + 4 ≤ n → pRow (n + 1) o acc (Pr.item AT (pr AT (.mk 6 [] [x])) ++ rest) = pRow n o (acc ++ [.mk 6 [] [x]]) rest := by
                  have e1 : Pr.item AT (pr AT (.mk 6 [] [x])) = Pr.again AT 123 42 125 (pr AT x) := rfl
                  have e2 : Mv.item MD (me MD (.mk 6 [] [x])) = Mv.again MD (me MD x) := rfl
                  rw [e1, e2]
                  intro o acc rest n hs hd hn
                  have ek : (me MD x).k = (pr AT x).k := by cases x; rfl
                  unfold Pr.again at hn ⊢
                  unfold Mv.again at hd
                  rw [ek] at hd
                  split at hn
                  · rename_i hc
                    rw [if_pos hc] at hd ⊢
                    rw [List.length_append] at hn
                    rw [List.append_assoc, pRow, hx.atom o _ n (by omega) (by omega)]
                    rfl
                  · rename_i hc
                    rw [if_neg hc] at hd ⊢
                    rw [wrap_len] at hn
                    exact item_plain (l := Pr.wrap AT 123 125 (pr AT x).put) (atom123 hx.alt hd (by omega)) hs rfl
                have hro := row_of_item (d := .mk 6 [] [x]) (show (6 : Nat) ≠ 3 by decide) hit
                have hal := alt_of_row (d := .mk 6 [] [x]) (show (6 : Nat) ≠ 4 by decide) hro
                refine ⟨hal, hro, hit, ?_, ?_⟩
                · intro o rest n hd hn
                  have e1 : Pr.atom AT (pr AT (.mk 6 [] [x])) = Pr.wrap AT 123 125 (pr AT x).put := rfl
                  rw [e1] at hn ⊢
                  rw [wrap_len] at hn
                  exact atom123 hx.alt hd hn
                · show Opn (Pr.again AT 123 42 125 (pr AT x))
                  unfold Pr.again
                  split
                  · exact hopm 42
                  · exact ⟨sg 123, _, rfl, Or.inr (Or.inr (Or.inr (Or.inr rfl)))⟩
          · rw [if_neg h5] at ho
            cases ho
mutual
theorem hd_pr : ∀ d : Nd, proper d = true → HD d
  | .mk k s l, h => by
    have h' : (okNode k s l.length && propers l) = true := h
    rw [Bool.and_eq_true] at h'
    exact node_hd h'.1 (hd_prs l h'.2)
theorem hd_prs : ∀ l : List Nd, propers l = true → ∀ x ∈ l, HD x
  | [], _ => fun _ hx => by cases hx
  | a :: l, h => fun x hx => by
    have h' : (proper a && propers l) = true := h
    rw [Bool.and_eq_true] at h'
    rcases List.mem_cons.mp hx with e | hx
    · exact e ▸ hd_pr a h'.1
    · exact hd_prs l h'.2 x hx
end
end Gr
end Go.Proofs.YtebocnpbiiejmaaDoor
