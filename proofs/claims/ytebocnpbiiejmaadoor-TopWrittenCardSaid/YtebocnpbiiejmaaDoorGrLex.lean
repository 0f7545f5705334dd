/- The tokens of a printed grammar: the text that is printed is read as the tokens that are printed. -/
import Derived.Test.YtebocnpbiiejmaaDoorGrLaw
namespace Go.Proofs.YtebocnpbiiejmaaDoor
namespace Gr
theorem skip_len (b : Bool) (l : List UInt8) : (skip b l).length ≤ l.length := by
  induction l generalizing b with
  | nil => cases b <;> exact Nat.le_refl _
  | cons c l ih =>
    cases b
    · show (if c = 35 then skip true l else if isBlank c then skip false l else c :: l).length ≤ _
      split
      · have := ih true
        simp only [List.length_cons]; omega
      · split
        · have := ih false
          simp only [List.length_cons]; omega
        · exact Nat.le_refl _
    · show (if c = 10 then skip false l else skip true l).length ≤ _
      split
      · have := ih false
        simp only [List.length_cons]; omega
      · have := ih true
        simp only [List.length_cons]; omega
theorem litS_len (q : UInt8) : ∀ (n : Nat) (l out t r : List UInt8), l.length ≤ n → litS q out l = some (t, r) → r.length < l.length := by
  intro n
  induction n with
  | zero =>
    intro l out t r hn h
    obtain rfl : l = [] := List.length_eq_zero_iff.mp (by omega)
    rw [litS.eq_def] at h; cases h
  | succ n ih =>
    intro l out t r hn h
    match l with
    | [] => rw [litS.eq_def] at h; cases h
    | b :: l =>
      rw [litS.eq_def] at h
      dsimp only at h
      simp only [List.length_cons] at hn ⊢
      by_cases h1 : b = q
      · rw [if_pos h1] at h
        cases h
        omega
      · rw [if_neg h1] at h
        by_cases h2 : b = 92
        · rw [if_pos h2] at h
          match l with
          | [] => cases h
          | c :: l1 =>
            simp only [List.length_cons] at hn ⊢
            dsimp only at h
            by_cases h3 : c = 92 ∨ c = 39 ∨ c = 34
            · rw [if_pos h3] at h
              have := ih l1 _ _ _ (by omega) h
              omega
            · rw [if_neg h3] at h
              by_cases h4 : c = 110
              · rw [if_pos h4] at h
                have := ih l1 _ _ _ (by omega) h
                omega
              · rw [if_neg h4] at h
                by_cases h5 : c = 116
                · rw [if_pos h5] at h
                  have := ih l1 _ _ _ (by omega) h
                  omega
                · rw [if_neg h5] at h
                  by_cases h6 : c = 120
                  · rw [if_pos h6] at h
                    match l1 with
                    | [] => cases h
                    | [_] => cases h
                    | x :: y :: l2 =>
                      simp only [List.length_cons] at hn ⊢
                      dsimp only at h
                      cases hx : hexv x with
                      | none => rw [hx] at h; cases h
                      | some m =>
                        cases hy : hexv y with
                        | none => rw [hx, hy] at h; cases h
                        | some k =>
                          rw [hx, hy] at h
                          have := ih l2 _ _ _ (by omega) h
                          omega
                  · rw [if_neg h6] at h
                    cases h
        · rw [if_neg h2] at h
          by_cases h3 : b < 32 ∨ 126 < b
          · rw [if_pos h3] at h
            cases h
          · rw [if_neg h3] at h
            have := ih l _ _ _ (by omega) h
            omega
theorem drop_len (p : UInt8 → Bool) (l : List UInt8) : (l.dropWhile p).length ≤ l.length := (List.dropWhile_sublist p).length_le
/-- one step of the tokens -/
theorem toks_mono (n : Nat) : ∀ (l : List UInt8) (ts : List Tk), toks n l = some ts → toks (n + 1) l = some ts := by
  induction n with
  | zero => intro l ts h; cases h
  | succ n ih =>
    intro l ts h
    rw [toks] at h ⊢
    cases hs : skip false l with
    | nil => rw [hs] at h; exact h
    | cons b r =>
      rw [hs] at h
      dsimp only at h ⊢
      by_cases h1 : isLetter b = true
      · rw [if_pos h1] at h ⊢
        by_cases h2 : 32 < ((b :: r).takeWhile inName).length
        · rw [if_pos h2] at h; cases h
        · rw [if_neg h2] at h ⊢
          obtain ⟨u, hu, rfl⟩ := Option.map_eq_some_iff.mp h
          rw [ih _ _ hu]
          rfl
      · rw [if_neg h1] at h ⊢
        by_cases h2 : b = 39 ∨ b = 34
        · rw [if_pos h2] at h ⊢
          cases hl : litS b [] r with
          | none => rw [hl] at h; cases h
          | some p =>
            obtain ⟨t, r1⟩ := p
            rw [hl] at h
            dsimp only at h ⊢
            by_cases h3 : t = [] ∨ 16 < t.length
            · rw [if_pos h3] at h; cases h
            · rw [if_neg h3] at h ⊢
              obtain ⟨u, hu, rfl⟩ := Option.map_eq_some_iff.mp h
              rw [ih _ _ hu]
              rfl
        · rw [if_neg h2] at h ⊢
          by_cases h3 : b ∈ signs
          · rw [if_pos h3] at h ⊢
            obtain ⟨u, hu, rfl⟩ := Option.map_eq_some_iff.mp h
            rw [ih _ _ hu]
            rfl
          · rw [if_neg h3] at h; cases h
theorem toks_le {n m : Nat} {l : List UInt8} {ts : List Tk} (h : toks n l = some ts) (hm : n ≤ m) : toks m l = some ts := by
  induction hm with
  | refl => exact h
  | step _ ih => exact toks_mono _ _ _ ih
theorem toks_fuel (n : Nat) : ∀ (l : List UInt8) (ts : List Tk), toks n l = some ts → toks (l.length + 1) l = some ts := by
  induction n with
  | zero => intro l ts h; cases h
  | succ n ih =>
    intro l ts h
    rw [toks] at h ⊢
    cases hs : skip false l with
    | nil => rw [hs] at h; exact h
    | cons b r =>
      have hlen := skip_len false l
      rw [hs] at h hlen
      simp only [List.length_cons] at hlen
      dsimp only at h ⊢
      by_cases h1 : isLetter b = true
      · rw [if_pos h1] at h ⊢
        by_cases h2 : 32 < ((b :: r).takeWhile inName).length
        · rw [if_pos h2] at h; cases h
        · rw [if_neg h2] at h ⊢
          obtain ⟨u, hu, rfl⟩ := Option.map_eq_some_iff.mp h
          have hd : ((b :: r).dropWhile inName).length ≤ r.length := by
            rw [List.dropWhile_cons_of_pos (by unfold inName; rw [h1]; rfl)]
            exact drop_len _ _
          rw [toks_le (ih _ _ hu) (by omega)]
          rfl
      · rw [if_neg h1] at h ⊢
        by_cases h2 : b = 39 ∨ b = 34
        · rw [if_pos h2] at h ⊢
          cases hl : litS b [] r with
          | none => rw [hl] at h; cases h
          | some p =>
            obtain ⟨t, r1⟩ := p
            rw [hl] at h
            dsimp only at h ⊢
            by_cases h3 : t = [] ∨ 16 < t.length
            · rw [if_pos h3] at h; cases h
            · rw [if_neg h3] at h ⊢
              obtain ⟨u, hu, rfl⟩ := Option.map_eq_some_iff.mp h
              have := litS_len b _ r _ _ _ (Nat.le_refl _) hl
              rw [toks_le (ih _ _ hu) (by omega)]
              rfl
        · rw [if_neg h2] at h ⊢
          by_cases h3 : b ∈ signs
          · rw [if_pos h3] at h ⊢
            obtain ⟨u, hu, rfl⟩ := Option.map_eq_some_iff.mp h
            rw [toks_le (ih _ _ hu) (by omega)]
            rfl
          · rw [if_neg h3] at h; cases h
/-- bytes read as tokens -/
def Sc (l : List UInt8) (ts : List Tk) : Prop := ∃ n, toks n l = some ts
theorem Sc.end_ : Sc [] [⟨4, []⟩] := ⟨1, rfl⟩
theorem Sc.blank {l : List UInt8} {ts : List Tk} (c : UInt8) (hc : isBlank c = true) (h : Sc l ts) : Sc (c :: l) ts := by
  obtain ⟨n, h⟩ := h
  refine ⟨n, ?_⟩
  cases n with
  | zero => cases h
  | succ n =>
    rw [toks] at h ⊢
    have hk : skip false (c :: l) = skip false l := by
      show (if c = 35 then skip true l else if isBlank c then skip false l else c :: l) = _
      rw [if_neg (by rintro rfl; revert hc; decide), if_pos hc]
    rw [hk]
    exact h
theorem sign_facts : ∀ c ∈ signs, isLetter c = false ∧ isBlank c = false ∧ c ≠ 35 ∧ c ≠ 39 ∧ c ≠ 34 ∧ inName c = false := by decide
theorem Sc.sign {l : List UInt8} {ts : List Tk} (c : UInt8) (hc : c ∈ signs) (h : Sc l ts) : Sc (c :: l) (sg c :: ts) := by
  obtain ⟨n, h⟩ := h
  obtain ⟨f1, f2, f3, f4, f5, -⟩ := sign_facts c hc
  refine ⟨n + 1, ?_⟩
  rw [toks]
  have hk : skip false (c :: l) = c :: l := by
    show (if c = 35 then skip true l else if isBlank c then skip false l else c :: l) = _
    rw [if_neg f3, if_neg (by rw [f2]; decide)]
  rw [hk]
  dsimp only
  rw [if_neg (by rw [f1]; decide), if_neg (fun e => e.elim f4 f5), if_pos hc, h]
  rfl
def Free (l : List UInt8) : Prop := ∀ c r, l = c :: r → inName c = false
theorem takeWhile_all {p : UInt8 → Bool} : ∀ {s l : List UInt8}, (∀ c ∈ s, p c = true) → (∀ c r, l = c :: r → p c = false) → (s ++ l).takeWhile p = s ∧ (s ++ l).dropWhile p = l := by
  intro s
  induction s with
  | nil =>
    intro l _ h
    cases l with
    | nil => exact ⟨rfl, rfl⟩
    | cons c r => rw [List.nil_append, List.takeWhile_cons_of_neg (by rw [h c r rfl]; decide), List.dropWhile_cons_of_neg (by rw [h c r rfl]; decide)]; exact ⟨rfl, rfl⟩
  | cons a s ih =>
    intro l hs h
    obtain ⟨h1, h2⟩ := ih (fun c hc => hs c (List.mem_cons_of_mem _ hc)) h
    rw [List.cons_append, List.takeWhile_cons_of_pos (hs a (List.mem_cons_self ..)), List.dropWhile_cons_of_pos (hs a (List.mem_cons_self ..)), h1, h2]
    exact ⟨rfl, rfl⟩
theorem letter_facts : ∀ c : UInt8, isLetter c = true → c ≠ 35 ∧ isBlank c = false := by
  intro c hc
  constructor
  · rintro rfl; revert hc; decide
  · unfold isBlank
    have : c ≠ 32 ∧ c ≠ 9 ∧ c ≠ 10 ∧ c ≠ 13 := by
      refine ⟨?_, ?_, ?_, ?_⟩ <;> (rintro rfl; revert hc; decide)
    simp [this.1, this.2.1, this.2.2.1, this.2.2.2]
theorem Sc.name {l : List UInt8} {ts : List Tk} (s : List UInt8) (hs : goodName s = true) (hl : Free l) (h : Sc l ts) : Sc (s ++ l) (⟨1, s⟩ :: ts) := by
  obtain ⟨n, h⟩ := h
  cases s with
  | nil => cases hs
  | cons c r =>
    have hs' : (isLetter c && (c :: r).all inName && decide ((c :: r).length ≤ 32)) = true := hs
    rw [Bool.and_eq_true, Bool.and_eq_true] at hs'
    obtain ⟨⟨h1, h2⟩, h3⟩ := hs'
    obtain ⟨f1, f2⟩ := letter_facts c h1
    have ha := takeWhile_all (l := l) (fun x hx => List.all_eq_true.mp h2 x hx) hl
    refine ⟨n + 1, ?_⟩
    rw [toks]
    have hk : skip false (c :: r ++ l) = c :: (r ++ l) := by
      show (if c = 35 then skip true (r ++ l) else if isBlank c then skip false (r ++ l) else c :: (r ++ l)) = _
      rw [if_neg f1, if_neg (by rw [f2]; decide)]
    rw [hk]
    dsimp only
    rw [List.cons_append] at ha
    rw [if_pos h1, ha.1, ha.2, if_neg (by have := of_decide_eq_true h3; omega), h]
    rfl
theorem hexv_d : ∀ n, n < 16 → hexv (hexd n) = some n := by decide
theorem quoteOf_is (s : List UInt8) : quoteOf s = 39 ∨ quoteOf s = 34 := by
  unfold quoteOf
  split
  · exact Or.inr rfl
  · exact Or.inl rfl
theorem litS_esc {q : UInt8} (hq : q = 39 ∨ q = 34) (l : List UInt8) : ∀ (s out : List UInt8), litS q out (s.flatMap (esc q) ++ q :: l) = some (out ++ s, l) := by
  intro s
  induction s with
  | nil =>
    intro out
    show litS q out (q :: l) = _
    rw [litS.eq_def]
    dsimp only
    rw [if_pos rfl, List.append_nil]
  | cons b s ih =>
    intro out
    have hq92 : ¬ (92 : UInt8) = q := by rcases hq with rfl | rfl <;> decide
    rw [List.flatMap_cons, List.append_assoc]
    unfold esc
    by_cases h1 : b = q ∨ b = 92
    · rw [if_pos h1]
      show litS q out (92 :: b :: (s.flatMap (esc q) ++ q :: l)) = _
      rw [litS.eq_def]
      dsimp only
      rw [if_neg hq92, if_pos rfl]
      rw [if_pos (by rcases h1 with rfl | rfl
                     · rcases hq with h | h
                       · exact Or.inr (Or.inl h)
                       · exact Or.inr (Or.inr h)
                     · exact Or.inl rfl), ih, List.append_assoc]
      rfl
    · rw [if_neg h1]
      by_cases h2 : b = 10
      · rw [if_pos h2]
        show litS q out (92 :: 110 :: (s.flatMap (esc q) ++ q :: l)) = _
        rw [litS.eq_def]
        dsimp only
        rw [if_neg hq92, if_pos rfl]
        rw [if_neg (by decide), if_pos rfl, ih, List.append_assoc, h2]
        rfl
      · rw [if_neg h2]
        by_cases h3 : b = 9
        · rw [if_pos h3]
          show litS q out (92 :: 116 :: (s.flatMap (esc q) ++ q :: l)) = _
          rw [litS.eq_def]
          dsimp only
          rw [if_neg hq92, if_pos rfl]
          rw [if_neg (by decide), if_neg (by decide), if_pos rfl, ih, List.append_assoc, h3]
          rfl
        · rw [if_neg h3]
          by_cases h4 : b < 32 ∨ 126 < b
          · rw [if_pos h4]
            show litS q out (92 :: 120 :: hexd (b.toNat / 16) :: hexd (b.toNat % 16) :: (s.flatMap (esc q) ++ q :: l)) = _
            rw [litS.eq_def]
            dsimp only
            rw [if_neg hq92, if_pos rfl]
            have hb := b.toNat_lt
            rw [if_neg (by decide), if_neg (by decide), if_neg (by decide), if_pos rfl, hexv_d _ (by omega), hexv_d _ (by omega)]
            dsimp only
            rw [ih, List.append_assoc, show 16 * (b.toNat / 16) + b.toNat % 16 = b.toNat by omega, UInt8.ofNat_toNat]
            rfl
          · rw [if_neg h4]
            show litS q out (b :: (s.flatMap (esc q) ++ q :: l)) = _
            rw [litS.eq_def]
            dsimp only
            rw [if_neg (fun h => h1 (Or.inl h)), if_neg (fun h => h1 (Or.inr h)), if_neg h4, ih, List.append_assoc]
            rfl
theorem Sc.lit {l : List UInt8} {ts : List Tk} (s : List UInt8) (h0 : s ≠ []) (h16 : s.length ≤ 16) (h : Sc l ts) : Sc (quote s ++ l) (⟨2, s⟩ :: ts) := by
  obtain ⟨n, h⟩ := h
  have hq := quoteOf_is s
  refine ⟨n + 1, ?_⟩
  rw [toks]
  have hk : skip false (quote s ++ l) = quoteOf s :: (s.flatMap (esc (quoteOf s)) ++ quoteOf s :: l) := by
    unfold quote
    rw [List.append_assoc, List.append_assoc]
    show (if quoteOf s = 35 then skip true _ else if isBlank (quoteOf s) then skip false _ else quoteOf s :: _) = _
    rw [if_neg (by rcases hq with h | h <;> rw [h] <;> decide), if_neg (by rcases hq with h | h <;> rw [h] <;> decide)]
    rfl
  rw [hk]
  dsimp only
  rw [if_neg (by rcases hq with h | h <;> rw [h] <;> decide), if_pos hq, litS_esc hq]
  dsimp only
  rw [List.nil_append, if_neg (fun e => e.elim h0 (by omega)), h]
  rfl

/-- bytes that are read as tokens, whatever stands behind (that ends a name) -/
def Lx (b : List UInt8) (t : List Tk) : Prop := ∀ l ts, Free l → Sc l ts → Sc (b ++ l) (t ++ ts)
theorem free_cons {c : UInt8} {l : List UInt8} (h : inName c = false) : Free (c :: l) := fun _ _ e => by cases e; exact h
theorem free_sign {c : UInt8} {l : List UInt8} (h : c ∈ signs) : Free (c :: l) := free_cons (sign_facts c h).2.2.2.2.2
theorem Lx.nil : Lx [] [] := fun _ _ _ h => h
theorem Lx.wrap {a z : UInt8} {b : List UInt8} {t : List Tk} (ha : a ∈ signs) (hz : z ∈ signs) (h : Lx b t) : Lx (Pr.wrap AB a z b) (Pr.wrap AT a z t) := by
  intro l ts _ hs
  show Sc (a :: (b ++ [z] ++ l)) (sg a :: (t ++ [sg z] ++ ts))
  rw [List.append_assoc, List.append_assoc]
  exact (h _ _ (free_sign hz) (hs.sign z hz)).sign a ha
theorem Lx.mark {z : UInt8} {b : List UInt8} {t : List Tk} (hz : z ∈ signs) (h : Lx b t) : Lx (b ++ AB.sg z) (t ++ AT.sg z) := by
  intro l ts _ hs
  rw [List.append_assoc, List.append_assoc]
  exact h _ _ (free_sign hz) (hs.sign z hz)
structure Rel (p : Pr UInt8) (q : Pr Tk) : Prop where
  k : p.k = q.k
  put : Lx p.put q.put
  kid : Lx p.kid q.kid
theorem Rel.item {p : Pr UInt8} {q : Pr Tk} (h : Rel p q) : Lx (Pr.item AB p) (Pr.item AT q) := by
  unfold Pr.item
  rw [h.k]
  split
  · exact h.put.wrap (by decide) (by decide)
  · exact h.put
theorem Rel.row {p : Pr UInt8} {q : Pr Tk} (h : Rel p q) : Lx (Pr.row AB p) (Pr.row AT q) := by
  unfold Pr.row
  rw [h.k]
  split
  · exact h.put.wrap (by decide) (by decide)
  · exact h.put
theorem Rel.atom {p : Pr UInt8} {q : Pr Tk} (h : Rel p q) : Lx (Pr.atom AB p) (Pr.atom AT q) := by
  unfold Pr.atom
  rw [h.k]
  split
  · exact h.put
  · split
    · exact h.kid.wrap (by decide) (by decide)
    · split
      · exact h.kid.wrap (by decide) (by decide)
      · exact h.put.wrap (by decide) (by decide)
theorem Rel.again {p : Pr UInt8} {q : Pr Tk} {a m z : UInt8} (h : Rel p q) (ha : a ∈ signs) (hm : m ∈ signs) (hz : z ∈ signs) : Lx (Pr.again AB a m z p) (Pr.again AT a m z q) := by
  unfold Pr.again
  rw [h.k]
  split
  · exact h.atom.mark hm
  · exact h.put.wrap ha hz
inductive Rels : List (Pr UInt8) → List (Pr Tk) → Prop where
  | nil : Rels [] []
  | cons {p q l m} : Rel p q → Rels l m → Rels (p :: l) (q :: m)
theorem Rels.first {l : List (Pr UInt8)} {m : List (Pr Tk)} (h : Rels l m) : Rel (first l) (first m) := by
  cases h with
  | nil => exact ⟨rfl, Lx.nil, Lx.nil⟩
  | cons h _ => exact h
theorem joined_lx {f : Pr UInt8 → List UInt8} {g : Pr Tk → List Tk} {sb : UInt8} {st : List Tk} (hf : ∀ p q, Rel p q → Lx (f p) (g q)) (hs : inName sb = false) (hsc : ∀ l ts, Sc l ts → Sc (sb :: l) (st ++ ts))
    {l : List (Pr UInt8)} {m : List (Pr Tk)} (h : Rels l m) : Lx (joined [sb] (l.map f)) (joined st (m.map g)) := by
  induction h with
  | nil => exact Lx.nil
  | cons h h2 ih =>
    cases h2 with
    | nil => exact hf _ _ h
    | cons h3 h4 =>
      intro l ts hl hsl
      show Sc ((f _ ++ ([sb] ++ joined [sb] (_ :: _))) ++ l) ((g _ ++ (st ++ joined st (_ :: _))) ++ ts)
      rw [List.append_assoc, List.append_assoc, List.append_assoc, List.append_assoc]
      exact hf _ _ h _ _ (free_cons hs) (hsc _ _ (ih l ts hl hsl))
theorem build_rel {k : Nat} {s : List UInt8} {n : Nat} (ho : okNode k s n = true) {l : List (Pr UInt8)} {m : List (Pr Tk)} (h : Rels l m) : Rel (build AB k s l) (build AT k s m) := by
  refine ⟨rfl, ?_, h.first.put⟩
  unfold build
  dsimp only
  unfold okNode at ho
  by_cases h1 : k = 1
  · rw [if_pos h1] at ho ⊢
    rw [if_pos h1]
    rw [Bool.and_eq_true] at ho
    intro l ts hl hs
    exact hs.name s ho.1 hl
  · rw [if_neg h1] at ho ⊢
    rw [if_neg h1]
    by_cases h2 : k = 2
    · rw [if_pos h2] at ho ⊢
      rw [if_pos h2]
      rw [Bool.and_eq_true, Bool.and_eq_true] at ho
      intro l ts hl hs
      exact hs.lit s (of_decide_eq_true ho.1.1) (of_decide_eq_true ho.1.2)
    · rw [if_neg h2, if_neg h2]
      by_cases h3 : k = 3
      · rw [if_pos h3, if_pos h3]
        exact joined_lx (fun _ _ h => h.item) (by decide) (fun l ts hs => show Sc (32 :: l) ([] ++ ts) from hs.blank 32 (by decide)) h
      · rw [if_neg h3, if_neg h3]
        by_cases h4 : k = 4
        · rw [if_pos h4, if_pos h4]
          exact joined_lx (fun _ _ h => h.row) (by decide) (fun l ts hs => hs.sign 124 (by decide)) h
        · rw [if_neg h4, if_neg h4]
          by_cases h5 : k = 5
          · rw [if_pos h5, if_pos h5]
            exact h.first.again (by decide) (by decide) (by decide)
          · rw [if_neg h5, if_neg h5]
            by_cases h6 : k = 6
            · rw [if_pos h6, if_pos h6]
              exact h.first.again (by decide) (by decide) (by decide)
            · rw [if_neg h6, if_neg h6]
              exact h.first.atom.mark (by decide)
mutual
theorem rel_pr : ∀ d : Nd, proper d = true → Rel (pr AB d) (pr AT d)
  | .mk k s l, h => by
    have h' : (okNode k s l.length && propers l) = true := h
    rw [Bool.and_eq_true] at h'
    exact build_rel h'.1 (rel_prs l h'.2)
theorem rel_prs : ∀ l : List Nd, propers l = true → Rels (prs AB l) (prs AT l)
  | [], _ => Rels.nil
  | a :: l, h => by
    have h' : (proper a && propers l) = true := h
    rw [Bool.and_eq_true] at h'
    exact Rels.cons (rel_pr a h'.1) (rel_prs l h'.2)
end
/-- a grammar that can be a text -/
def okRule (x : List UInt8 × Nd) : Bool := goodName x.1 && proper x.2
theorem rule_lx {x : List UInt8 × Nd} (h : okRule x = true) {l : List UInt8} {ts : List Tk} (hs : Sc l ts) : Sc (ruleText x ++ l) (ruleToks x ++ ts) := by
  unfold okRule at h
  rw [Bool.and_eq_true] at h
  unfold ruleText ruleToks
  have h2 := (rel_pr x.2 h.2).put (59 :: 10 :: l) (sg 59 :: ts) (free_sign (by decide)) ((hs.blank 10 (by decide)).sign 59 (by decide))
  have h3 := (h2.blank 32 (by decide)).sign 58 (by decide)
  have h4 := h3.name x.1 h.1 (free_sign (by decide))
  have e1 : x.1 ++ ([58, 32] ++ ((pr AB x.2).put ++ [59, 10])) ++ l = x.1 ++ 58 :: 32 :: ((pr AB x.2).put ++ 59 :: 10 :: l) := by
    simp only [List.append_assoc, List.cons_append, List.nil_append]
  have e2 : (⟨1, x.1⟩ :: sg 58 :: ((pr AT x.2).put ++ [sg 59])) ++ ts = ⟨1, x.1⟩ :: sg 58 :: ((pr AT x.2).put ++ sg 59 :: ts) := by
    simp only [List.append_assoc, List.cons_append, List.nil_append]
  rw [e1, e2]
  exact h4
theorem rules_lx : ∀ {rs : List (List UInt8 × Nd)}, (∀ x ∈ rs, okRule x = true) → ∀ {l : List UInt8} {ts : List Tk}, Sc l ts → Sc (rs.flatMap ruleText ++ l) (rs.flatMap ruleToks ++ ts) := by
  intro rs
  induction rs with
  | nil => intro _ l ts h; exact h
  | cons x rs ih =>
    intro h l ts hs
    rw [List.flatMap_cons, List.flatMap_cons, List.append_assoc, List.append_assoc]
    exact rule_lx (h x (List.mem_cons_self ..)) (ih (fun y hy => h y (List.mem_cons_of_mem _ hy)) hs)
theorem text_lx {g : Gm} (hs : goodName g.1 = true) (h : ∀ x ∈ g.2, okRule x = true) : Sc (text g) (gramToks g ++ [⟨4, []⟩]) := by
  have h1 := rules_lx h Sc.end_
  rw [List.append_nil] at h1
  unfold text gramToks
  split
  · exact h1
  · have h2 := ((h1.blank 10 (by decide)).sign 59 (by decide)).name g.1 hs (free_sign (by decide))
    have h3 := h2.sign 37 (by decide)
    have e1 : [37] ++ (g.1 ++ [59, 10]) ++ g.2.flatMap ruleText = 37 :: (g.1 ++ 59 :: 10 :: g.2.flatMap ruleText) := by
      simp only [List.append_assoc, List.cons_append, List.nil_append]
    rw [e1]
    exact h3
theorem scan_text {g : Gm} (hs : goodName g.1 = true) (h : ∀ x ∈ g.2, okRule x = true) (hl : (text g).length ≤ 65536) : scan (text g) = some (gramToks g ++ [⟨4, []⟩]) := by
  obtain ⟨n, hn⟩ := text_lx hs h
  unfold scan
  rw [if_neg (by omega)]
  exact toks_fuel n _ _ hn
end Gr
end Go.Proofs.YtebocnpbiiejmaaDoor
