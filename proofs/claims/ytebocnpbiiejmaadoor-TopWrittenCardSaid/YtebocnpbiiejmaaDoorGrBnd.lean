/- What was parsed is printed in not too many bytes. -/
import Derived.Test.YtebocnpbiiejmaaDoorGrThm
namespace Go.Proofs.YtebocnpbiiejmaaDoor
namespace Gr
structure Bd (A : Pr UInt8) (T : Pr Tk) : Prop where
  k : A.k = T.k
  put : A.put.length ≤ 70 * T.put.length
  kid : A.kid.length ≤ 70 * T.kid.length
  one : A.k ≠ 3 → A.k ≠ 4 → A.put.length + 1 ≤ 70 * T.put.length
theorem esc_le (q b : UInt8) : (esc q b).length ≤ 4 := by
  unfold esc
  repeat (first | (split; try (simp; done)) | simp)
theorem quote_le (s : List UInt8) : (quote s).length ≤ 2 + 4 * s.length := by
  unfold quote
  have h : ∀ l : List UInt8, (l.flatMap (esc (quoteOf s))).length ≤ 4 * l.length := by
    intro l
    induction l with
    | nil => exact Nat.zero_le _
    | cons a l ih =>
      rw [List.flatMap_cons, List.length_append, List.length_cons]
      have := esc_le (quoteOf s) a
      omega
  have := h s
  simp only [List.length_append, List.length_cons, List.length_nil]
  omega
theorem wrapB_len (a b : UInt8) (l : List UInt8) : (Pr.wrap AB a b l).length = l.length + 2 := by
  show ([a] ++ (l ++ [b])).length = _
  simp
theorem wrapT_len (a b : UInt8) (l : List Tk) : (Pr.wrap AT a b l).length = l.length + 2 := by
  show ([sg a] ++ (l ++ [sg b])).length = _
  simp
theorem Bd.item {A : Pr UInt8} {T : Pr Tk} (h : Bd A T) : (Pr.item AB A).length + 1 ≤ 70 * (Pr.item AT T).length := by
  unfold Pr.item
  rw [← h.k]
  by_cases hk : A.k = 3 ∨ A.k = 4
  · rw [if_pos hk, if_pos hk, wrapB_len, wrapT_len]
    have := h.put
    omega
  · rw [if_neg hk, if_neg hk]
    exact h.one (fun e => hk (Or.inl e)) (fun e => hk (Or.inr e))
theorem Bd.row {A : Pr UInt8} {T : Pr Tk} (h : Bd A T) : (Pr.row AB A).length ≤ 70 * (Pr.row AT T).length := by
  unfold Pr.row
  rw [← h.k]
  have := h.put
  by_cases hk : A.k = 4
  · rw [if_pos hk, if_pos hk, wrapB_len, wrapT_len]
    omega
  · rw [if_neg hk, if_neg hk]
    exact this
theorem Bd.atom {A : Pr UInt8} {T : Pr Tk} (h : Bd A T) : (Pr.atom AB A).length ≤ 70 * (Pr.atom AT T).length := by
  unfold Pr.atom
  rw [← h.k]
  have h1 := h.put
  have h2 := h.kid
  by_cases hk : A.k = 1 ∨ A.k = 2
  · rw [if_pos hk, if_pos hk]; exact h1
  · rw [if_neg hk, if_neg hk]
    by_cases h5 : A.k = 5
    · rw [if_pos h5, if_pos h5, wrapB_len, wrapT_len]; omega
    · rw [if_neg h5, if_neg h5]
      by_cases h6 : A.k = 6
      · rw [if_pos h6, if_pos h6, wrapB_len, wrapT_len]; omega
      · rw [if_neg h6, if_neg h6, wrapB_len, wrapT_len]; omega
theorem Bd.again {A : Pr UInt8} {T : Pr Tk} (h : Bd A T) (a m b : UInt8) : (Pr.again AB a m b A).length + 1 ≤ 70 * (Pr.again AT a m b T).length := by
  unfold Pr.again
  rw [← h.k]
  have h1 := h.put
  have h2 := h.atom
  by_cases hk : A.k = 1 ∨ A.k = 2 ∨ A.k = 5 ∨ A.k = 6
  · rw [if_pos hk, if_pos hk, List.length_append, List.length_append]
    show _ + 1 + 1 ≤ 70 * (_ + 1)
    omega
  · rw [if_neg hk, if_neg hk, wrapB_len, wrapT_len]; omega
theorem joinedB_items : ∀ (l : List Nd), (∀ d ∈ l, Bd (pr AB d) (pr AT d)) → (joined AB.sp ((l.map (pr AB)).map (Pr.item AB))).length ≤ 70 * (joined AT.sp ((l.map (pr AT)).map (Pr.item AT))).length
  | [], _ => Nat.zero_le _
  | [a], h => by
    have := (h a (by simp)).item
    show (Pr.item AB (pr AB a)).length ≤ 70 * (Pr.item AT (pr AT a)).length
    omega
  | a :: b :: l, h => by
    have h1 := (h a (by simp)).item
    have h2 := joinedB_items (b :: l) (fun d hd => h d (List.mem_cons_of_mem _ hd))
    show (Pr.item AB (pr AB a) ++ ([32] ++ joined AB.sp (((b :: l).map (pr AB)).map (Pr.item AB)))).length ≤ 70 * (Pr.item AT (pr AT a) ++ ([] ++ joined AT.sp (((b :: l).map (pr AT)).map (Pr.item AT)))).length
    simp only [List.length_append, List.length_cons, List.length_nil]
    omega
theorem joinedB_rows : ∀ (l : List Nd), (∀ d ∈ l, Bd (pr AB d) (pr AT d)) → (joined (AB.sg 124) ((l.map (pr AB)).map (Pr.row AB))).length ≤ 70 * (joined (AT.sg 124) ((l.map (pr AT)).map (Pr.row AT))).length
  | [], _ => Nat.zero_le _
  | [a], h => (h a (by simp)).row
  | a :: b :: l, h => by
    have h1 := (h a (by simp)).row
    have h2 := joinedB_rows (b :: l) (fun d hd => h d (List.mem_cons_of_mem _ hd))
    show (Pr.row AB (pr AB a) ++ ([124] ++ joined (AB.sg 124) (((b :: l).map (pr AB)).map (Pr.row AB)))).length ≤ 70 * (Pr.row AT (pr AT a) ++ ([sg 124] ++ joined (AT.sg 124) (((b :: l).map (pr AT)).map (Pr.row AT)))).length
    simp only [List.length_append, List.length_cons, List.length_nil]
    omega
theorem bd_step (k : Nat) (s : List UInt8) (l : List Nd) (hok : okNode k s l.length = true) (hl : ∀ d ∈ l, Bd (pr AB d) (pr AT d)) : Bd (pr AB (.mk k s l)) (pr AT (.mk k s l)) := by
  have hkid : (first (prs AB l)).put.length ≤ 70 * (first (prs AT l)).put.length := by
    cases l with
    | nil => exact Nat.zero_le _
    | cons a l => exact (hl a (by simp)).put
  have main : (build AB k s (prs AB l)).put.length ≤ 70 * (build AT k s (prs AT l)).put.length ∧ (k ≠ 3 → k ≠ 4 → (build AB k s (prs AB l)).put.length + 1 ≤ 70 * (build AT k s (prs AT l)).put.length) := by
    unfold okNode at hok
    unfold build
    dsimp only
    by_cases h1 : k = 1
    · rw [if_pos h1] at hok ⊢
      rw [if_pos h1]
      rw [Bool.and_eq_true] at hok
      have hs : s.length ≤ 32 := by
        have hg := hok.1
        cases s with
        | nil => exact Nat.zero_le _
        | cons c r =>
          have hg : (isLetter c && (c :: r).all inName && decide ((c :: r).length ≤ 32)) = true := hg
          rw [Bool.and_eq_true] at hg
          exact of_decide_eq_true hg.2
      show s.length ≤ 70 * 1 ∧ (_ → _ → s.length + 1 ≤ 70 * 1)
      exact ⟨by omega, fun _ _ => by omega⟩
    · rw [if_neg h1] at hok ⊢
      rw [if_neg h1]
      by_cases h2 : k = 2
      · rw [if_pos h2] at hok ⊢
        rw [if_pos h2]
        rw [Bool.and_eq_true, Bool.and_eq_true] at hok
        have hs := of_decide_eq_true hok.1.2
        have hq := quote_le s
        show (quote s).length ≤ 70 * 1 ∧ (_ → _ → (quote s).length + 1 ≤ 70 * 1)
        exact ⟨by omega, fun _ _ => by omega⟩
      · rw [if_neg h2] at hok ⊢
        rw [if_neg h2]
        by_cases h3 : k = 3
        · rw [if_pos h3, if_pos h3, prs_eq, prs_eq]
          exact ⟨joinedB_items l hl, fun e => absurd h3 e⟩
        · rw [if_neg h3] at hok ⊢
          rw [if_neg h3]
          by_cases h4 : k = 4
          · rw [if_pos h4, if_pos h4, prs_eq, prs_eq]
            exact ⟨joinedB_rows l hl, fun _ e => absurd h4 e⟩
          · rw [if_neg h4] at hok ⊢
            rw [if_neg h4]
            rw [Bool.and_eq_true] at hok
            have hlen : l.length = 1 := by
              have h := hok.1
              by_cases h567 : k = 5 ∨ k = 6 ∨ k = 7
              · rw [if_pos h567] at h; exact of_decide_eq_true h
              · rw [if_neg h567] at h; cases h
            match l, hlen with
            | [d], _ =>
              have hd := hl d (by simp)
              by_cases h5 : k = 5
              · rw [if_pos h5, if_pos h5]
                have := hd.again 91 63 93
                exact ⟨by show (Pr.again AB 91 63 93 (pr AB d)).length ≤ 70 * (Pr.again AT 91 63 93 (pr AT d)).length; omega, fun _ _ => this⟩
              · rw [if_neg h5, if_neg h5]
                by_cases h6 : k = 6
                · rw [if_pos h6, if_pos h6]
                  have := hd.again 123 42 125
                  exact ⟨by show (Pr.again AB 123 42 125 (pr AB d)).length ≤ 70 * (Pr.again AT 123 42 125 (pr AT d)).length; omega, fun _ _ => this⟩
                · rw [if_neg h6, if_neg h6]
                  have := hd.atom
                  show (Pr.atom AB (pr AB d) ++ [43]).length ≤ 70 * (Pr.atom AT (pr AT d) ++ [sg 43]).length ∧ (_ → _ → (Pr.atom AB (pr AB d) ++ [43]).length + 1 ≤ 70 * (Pr.atom AT (pr AT d) ++ [sg 43]).length)
                  simp only [List.length_append, List.length_cons, List.length_nil]
                  exact ⟨by omega, fun _ _ => by omega⟩
  exact ⟨rfl, main.1, hkid, main.2⟩
mutual
theorem bd_all : ∀ d : Nd, proper d = true → Bd (pr AB d) (pr AT d)
  | .mk k s l, h => by
    have h : (okNode k s l.length && propers l) = true := h
    rw [Bool.and_eq_true] at h
    exact bd_step k s l h.1 (bds_all l h.2)
theorem bds_all : ∀ l : List Nd, propers l = true → ∀ d ∈ l, Bd (pr AB d) (pr AT d)
  | [], _, _, h => by cases h
  | a :: l, hp, d, h => by
    have hp : (proper a && propers l) = true := hp
    rw [Bool.and_eq_true] at hp
    rcases List.mem_cons.1 h with e | e
    · rw [e]; exact bd_all a hp.1
    · exact bds_all l hp.2 d e
end
theorem goodName_le {s : List UInt8} (hg : goodName s = true) : s.length ≤ 32 := by
  cases s with
  | nil => exact Nat.zero_le _
  | cons c r =>
    have hg : (isLetter c && (c :: r).all inName && decide ((c :: r).length ≤ 32)) = true := hg
    rw [Bool.and_eq_true] at hg
    exact of_decide_eq_true hg.2
theorem rules_le : ∀ (l : List (List UInt8 × Nd)), (∀ x ∈ l, okRule x = true) → (l.flatMap ruleText).length ≤ 70 * (l.flatMap ruleToks).length
  | [], _ => Nat.zero_le _
  | x :: l, h => by
    have ih := rules_le l (fun y hy => h y (List.mem_cons_of_mem _ hy))
    have hx := h x (by simp)
    unfold okRule at hx
    rw [Bool.and_eq_true] at hx
    have h1 := goodName_le hx.1
    have h2 := (bd_all x.2 hx.2).put
    rw [List.flatMap_cons, List.flatMap_cons, List.length_append, List.length_append]
    have e1 : (ruleText x).length = x.1.length + (2 + ((pr AB x.2).put.length + 2)) := by simp [ruleText]; omega
    have e2 : (ruleToks x).length = (pr AT x.2).put.length + 3 := by simp [ruleToks]
    omega
theorem text_le {g : Gm} (hn : goodName g.1 = true) (h : ∀ x ∈ g.2, okRule x = true) : (text g).length ≤ 70 * (gramToks g).length + 35 := by
  have h1 := rules_le g.2 h
  have h2 := goodName_le hn
  unfold text gramToks
  by_cases hh : g.1 = headOf g.2
  · rw [if_pos hh, if_pos hh, List.nil_append, List.nil_append]
    omega
  · rw [if_neg hh, if_neg hh, List.length_append, List.length_append]
    simp only [List.length_append, List.length_cons, List.length_nil]
    omega
/-- what was parsed is short when it is printed -/
theorem parse_short {s : List UInt8} {g : Gm} (h : parse s = some g) : (text g).length ≤ 300000 := by
  have hW := parse_written h
  unfold parse at h
  cases hs : scan s with
  | none => rw [hs] at h; cases h
  | some ts =>
    rw [hs] at h
    dsimp only at h
    have hs' := hs
    unfold scan at hs'
    split at hs'
    · cases hs'
    · obtain ⟨cs, rfl, hcs⟩ := toks_shape _ _ _ hs'
      obtain ⟨c, t, R, e, ht, hg⟩ := gram_got h
      obtain ⟨rfl, hlen⟩ := seen_all cs c _ t R (fun x hx => (hcs x hx).1) hg.nz ht e
      obtain ⟨h1, h2, h3, -⟩ := hg.ok fun x hx => (hcs x hx).2
      have := text_le h1 h2
      omega
end Gr
end Go.Proofs.YtebocnpbiiejmaaDoor
