/- A grammar that was read is printed as a text that is read as the same grammar. -/
import Derived.Test.YtebocnpbiiejmaaDoorGrGot
namespace Go.Proofs.YtebocnpbiiejmaaDoor
namespace Gr
def nzk (t : Tk) : Prop := t.k = 1 ∨ t.k = 2 ∨ t.k = 3
theorem takeWhile_mem {p : UInt8 → Bool} : ∀ {l : List UInt8} {c : UInt8}, c ∈ l.takeWhile p → p c = true := by
  intro l
  induction l with
  | nil => intro c h; cases h
  | cons a l ih =>
    intro c h
    by_cases ha : p a = true
    · rw [List.takeWhile_cons_of_pos ha] at h
      rcases List.mem_cons.mp h with rfl | h
      · exact ha
      · exact ih h
    · rw [List.takeWhile_cons_of_neg ha] at h
      cases h
/-- the tokens of a text: the end stands at the end alone -/
theorem toks_shape (n : Nat) : ∀ (l : List UInt8) (ts : List Tk), toks n l = some ts → ∃ cs, ts = cs ++ [⟨4, []⟩] ∧ (∀ t ∈ cs, nzk t ∧ okTk t) := by
  induction n with
  | zero => intro l ts h; cases h
  | succ n ih =>
    intro l ts h
    rw [toks] at h
    cases hs : skip false l with
    | nil =>
      rw [hs] at h
      cases h
      exact ⟨[], rfl, fun _ h => by cases h⟩
    | cons b r =>
      rw [hs] at h
      dsimp only at h
      have step : ∀ (t : Tk) (r1 : List UInt8), nzk t → okTk t → (toks n r1).map (t :: ·) = some ts → ∃ cs, ts = cs ++ [⟨4, []⟩] ∧ (∀ t ∈ cs, nzk t ∧ okTk t) := by
        intro t r1 h1 h2 h3
        obtain ⟨u, hu, rfl⟩ := Option.map_eq_some_iff.mp h3
        obtain ⟨cs, rfl, hc⟩ := ih _ _ hu
        refine ⟨t :: cs, rfl, fun x hx => ?_⟩
        rcases List.mem_cons.mp hx with rfl | hx
        · exact ⟨h1, h2⟩
        · exact hc x hx
      by_cases h1 : isLetter b = true
      · rw [if_pos h1] at h
        by_cases h2 : 32 < ((b :: r).takeWhile inName).length
        · rw [if_pos h2] at h; cases h
        · rw [if_neg h2] at h
          refine step _ _ (Or.inl rfl) ⟨fun _ => ?_, fun h => by cases h⟩ h
          have hb : (b :: r).takeWhile inName = b :: r.takeWhile inName := List.takeWhile_cons_of_pos (by unfold inName; rw [h1]; rfl)
          have ha : ((b :: r).takeWhile inName).all inName = true := List.all_eq_true.mpr fun c hc => takeWhile_mem hc
          rw [hb] at h2 ha ⊢
          show (isLetter b && (b :: r.takeWhile inName).all inName && decide ((b :: r.takeWhile inName).length ≤ 32)) = true
          rw [h1, ha, decide_eq_true (by omega)]
          rfl
      · rw [if_neg h1] at h
        by_cases h2 : b = 39 ∨ b = 34
        · rw [if_pos h2] at h
          cases hl : litS b [] r with
          | none => rw [hl] at h; cases h
          | some p =>
            obtain ⟨t, r1⟩ := p
            rw [hl] at h
            dsimp only at h
            by_cases h3 : t = [] ∨ 16 < t.length
            · rw [if_pos h3] at h; cases h
            · rw [if_neg h3] at h
              exact step _ _ (Or.inr (Or.inl rfl)) ⟨(fun h => by cases h), fun _ => ⟨fun e => h3 (Or.inl e), by
                have : ¬ 16 < t.length := fun e => h3 (Or.inr e)
                show t.length ≤ 16
                omega⟩⟩ h
        · rw [if_neg h2] at h
          by_cases h3 : b ∈ signs
          · rw [if_pos h3] at h
            exact step _ _ (Or.inr (Or.inr rfl)) ⟨(fun h => by cases h), fun h => by cases h⟩ h
          · rw [if_neg h3] at h; cases h
theorem seen_id : ∀ (ts : List Tk) (n : Nat), ts.length ≤ n → seen n ts = ts := by
  intro ts
  induction ts with
  | nil => intro n _; cases n <;> rfl
  | cons a l ih =>
    intro n h
    cases n with
    | zero => cases h
    | succ n =>
      show a :: seen n l = _
      rw [ih n (by simpa using h)]
theorem seen_id1 : ∀ (ts : List Tk) (n : Nat), ts.length ≤ n → seen n (ts ++ [⟨4, []⟩]) = ts ++ [⟨4, []⟩] := by
  intro ts
  induction ts with
  | nil => intro n _; cases n <;> rfl
  | cons a l ih =>
    intro n h
    cases n with
    | zero => cases h
    | succ n =>
      show a :: seen n (l ++ [_]) = _
      rw [ih n (by simpa using h)]
      rfl
theorem seen_all : ∀ (cs C : List Tk) (n : Nat) (t : Tk) (R : List Tk), (∀ x ∈ cs, nzk x) → (∀ x ∈ C, nzk x) → t.k = 4 → seen n (cs ++ [⟨4, []⟩]) = C ++ t :: R → C = cs ∧ cs.length ≤ n := by
  intro cs
  induction cs with
  | nil =>
    intro C n t R _ hC ht h
    have e : seen n [⟨4, []⟩] = [⟨4, []⟩] := by cases n <;> rfl
    rw [List.nil_append, e] at h
    cases C with
    | nil => exact ⟨rfl, Nat.zero_le _⟩
    | cons x C =>
      injection h with h1 h2
      have := hC x (List.mem_cons_self ..)
      rw [← h1] at this
      unfold nzk at this
      simp at this
  | cons a cs ih =>
    intro C n t R hcs hC ht h
    have hak := hcs a (List.mem_cons_self ..)
    cases n with
    | zero =>
      have e : seen 0 (a :: cs ++ [⟨4, []⟩]) = ⟨0, a.s⟩ :: seen 0 (cs ++ [⟨4, []⟩]) := by
        show (if a.k = 4 then a else ⟨0, a.s⟩) :: _ = _
        rw [if_neg (by unfold nzk at hak; omega)]
        rfl
      rw [e] at h
      cases C with
      | nil =>
        injection h with h1 h2
        rw [← h1] at ht
        cases ht
      | cons x C =>
        injection h with h1 h2
        have := hC x (List.mem_cons_self ..)
        rw [← h1] at this
        unfold nzk at this
        simp at this
    | succ n =>
      have e : seen (n + 1) (a :: cs ++ [⟨4, []⟩]) = a :: seen n (cs ++ [⟨4, []⟩]) := rfl
      rw [e] at h
      cases C with
      | nil =>
        injection h with h1 h2
        rw [← h1] at ht
        unfold nzk at hak
        omega
      | cons x C =>
        injection h with h1 h2
        obtain ⟨rfl, h3⟩ := ih C n t R (fun y hy => hcs y (List.mem_cons_of_mem _ hy)) (fun y hy => hC y (List.mem_cons_of_mem _ hy)) ht h2
        subst h1
        exact ⟨rfl, by simpa using h3⟩
/-- what a rule is read as -/
def rlv (x : List UInt8 × Nd) : List Tk := ⟨1, x.1⟩ :: lv x.2
structure Rule1 (c : List Tk) (x : List UInt8 × Nd) : Prop where
  nz : ∀ t ∈ c, nzk t
  ok : (∀ t ∈ c, okTk t) → okRule x = true
  len : (ruleToks x).length ≤ c.length
  dep : (me MD x.2).put ≤ 16
  lvq : leaves c = rlv x
theorem rule_got {ts r : List Tk} {x : List UInt8 × Nd} (h : pRule ts = some (x, r)) : ∃ c, ts = c ++ r ∧ 1 ≤ c.length ∧ Rule1 c x := by
  unfold pRule at h
  match ts with
  | [] => cases h
  | t :: l =>
    by_cases h1 : t.k = 1
    · have e : name (t :: l) = some (t.s, l) := if_pos h1
      rw [e] at h
      dsimp only at h
      cases ht : take 58 l with
      | none => rw [ht] at h; cases h
      | some l1 =>
        rw [ht] at h
        dsimp only at h
        obtain rfl := take_some ht
        cases ha : pAlt (fuel l1) 0 l1 with
        | none => rw [ha] at h; cases h
        | some p =>
          obtain ⟨d, l2⟩ := p
          rw [ha] at h
          dsimp only at h
          obtain ⟨l3, ht2, e2⟩ := Option.map_eq_some_iff.mp h
          cases e2
          obtain rfl := take_some ht2
          obtain ⟨c, rfl, hc⟩ := (got _).alt 0 _ _ _ (by omega) ha
          obtain ⟨k, s⟩ := t
          obtain rfl : k = 1 := h1
          refine ⟨⟨1, s⟩ :: sg 58 :: (c ++ [sg 59]), by simp, by simp, ?_, ?_, ?_, ?_, ?_⟩
          · intro t ht
            rcases List.mem_cons.mp ht with rfl | ht
            · exact Or.inl rfl
            · rcases List.mem_cons.mp ht with rfl | ht
              · exact Or.inr (Or.inr rfl)
              · exact nz_app hc.nz (nz_sg _) t ht
          · intro hk
            unfold okRule
            rw [hc.ok fun t ht => hk t (List.mem_cons_of_mem _ (List.mem_cons_of_mem _ (List.mem_append_left _ ht))), (hk ⟨1, s⟩ (List.mem_cons_self ..)).1 rfl]
            rfl
          · have hl := hc.len
            have e1 : (me ML d).put ≤ c.length := hl
            unfold ruleToks
            simp only [List.length_cons, List.length_append, List.length_nil]
            rw [(len_pr d).put]
            omega
          · have := hc.dep
            have e1 : 0 + (me MD d).put ≤ 16 := this
            show (me MD d).put ≤ 16
            omega
          · have e : (⟨1, s⟩ :: sg 58 :: (c ++ [sg 59]) : List Tk) = [⟨1, s⟩] ++ ([sg 58] ++ (c ++ [sg 59])) := rfl
            rw [e, leaves_app, leaves_app, leaves_app, leaves_sg, leaves_sg, hc.lvq, List.append_nil]
            rfl
    · have e : name (t :: l) = none := if_neg h1
      rw [e] at h
      cases h
structure RulesG (c : List Tk) (l : List (List UInt8 × Nd)) : Prop where
  nz : ∀ t ∈ c, nzk t
  ok : (∀ t ∈ c, okTk t) → ∀ x ∈ l, okRule x = true
  len : (l.flatMap ruleToks).length ≤ c.length
  dep : ∀ x ∈ l, (me MD x.2).put ≤ 16
  lvq : leaves c = l.flatMap rlv
theorem rules_got (n : Nat) : ∀ (rs rs' : List (List UInt8 × Nd)) (ts : List Tk), rs.length ≤ 64 → pRules n rs ts = some rs' → ∃ c t R l, ts = c ++ t :: R ∧ t.k = 4 ∧ rs' = rs ++ l ∧ rs' ≠ [] ∧ rs'.length ≤ 64 ∧ RulesG c l := by
  induction n with
  | zero => intro rs rs' ts _ h; cases h
  | succ n ih =>
    intro rs rs' ts h64 h
    rw [pRules.eq_def] at h
    dsimp only at h
    match ts with
    | [] => cases h
    | t :: r =>
      dsimp only at h
      by_cases h0 : t.k = 0
      · rw [if_pos h0] at h; cases h
      · rw [if_neg h0] at h
        by_cases h4 : t.k = 4 ∧ rs ≠ []
        · rw [if_pos h4] at h
          cases h
          exact ⟨[], t, r, [], rfl, h4.1, (List.append_nil _).symm, h4.2, h64, (fun _ h => by cases h), (fun _ _ h => by cases h), Nat.le_refl _, (fun _ h => by cases h), rfl⟩
        · rw [if_neg h4] at h
          by_cases h5 : rs.length = 64
          · rw [if_pos h5] at h; cases h
          · rw [if_neg h5] at h
            cases hr : pRule (t :: r) with
            | none => rw [hr] at h; cases h
            | some p =>
              obtain ⟨x, r1⟩ := p
              rw [hr] at h
              dsimp only at h
              obtain ⟨c, e, -, hc⟩ := rule_got hr
              obtain ⟨c2, t2, R, l, rfl, ht2, rfl, hne, hle, hg⟩ := ih (rs ++ [x]) rs' r1 (by rw [List.length_append]; show rs.length + 1 ≤ 64; omega) h
              refine ⟨c ++ c2, t2, R, x :: l, by rw [e, List.append_assoc], ht2, by simp, hne, hle, ?_, ?_, ?_, ?_, ?_⟩
              · exact nz_app hc.nz hg.nz
              · intro hk y hy
                rcases List.mem_cons.mp hy with rfl | hy
                · exact hc.ok fun t ht => hk t (List.mem_append_left _ ht)
                · exact hg.ok (fun t ht => hk t (List.mem_append_right _ ht)) y hy
              · rw [List.flatMap_cons, List.length_append, List.length_append]
                have := hc.len
                have := hg.len
                omega
              · intro y hy
                rcases List.mem_cons.mp hy with rfl | hy
                · exact hc.dep
                · exact hg.dep y hy
              · rw [leaves_app, hc.lvq, hg.lvq, List.flatMap_cons]
structure GramG (c : List Tk) (g : Gm) : Prop where
  nz : ∀ t ∈ c, nzk t
  ne : g.2 ≠ []
  le : g.2.length ≤ 64
  dep : ∀ x ∈ g.2, (me MD x.2).put ≤ 16
  ok : (∀ t ∈ c, okTk t) → goodName g.1 = true ∧ (∀ x ∈ g.2, okRule x = true) ∧ (gramToks g).length ≤ c.length ∧
    ((g.1 = headOf g.2 ∧ (leaves c = g.2.flatMap rlv ∨ leaves c = ⟨1, g.1⟩ :: g.2.flatMap rlv)) ∨ (g.1 ≠ headOf g.2 ∧ leaves c = ⟨1, g.1⟩ :: g.2.flatMap rlv))
theorem gram_got {ts : List Tk} {g : Gm} (h : pGram ts = some g) : ∃ c t R, ts = c ++ t :: R ∧ t.k = 4 ∧ GramG c g := by
  unfold pGram at h
  cases hp : pStart ts with
  | none => rw [hp] at h; cases h
  | some p =>
    obtain ⟨st, r⟩ := p
    rw [hp] at h
    dsimp only at h
    obtain ⟨rs, hr, e⟩ := Option.map_eq_some_iff.mp h
    obtain ⟨c, t, R, l, rfl, ht, e2, hne, hle, hg⟩ := rules_got _ [] _ _ (Nat.zero_le _) hr
    rw [List.nil_append] at e2
    subst e2
    unfold pStart at hp
    cases hs : sign 37 ts with
    | none => rw [hs] at hp; cases hp
    | some b =>
      rw [hs] at hp
      cases b with
      | false =>
        cases hp
        subst e
        refine ⟨c, t, R, rfl, ht, hg.nz, hne, hle, hg.dep, fun hk => ?_⟩
        match rs, hne, hg with
        | x :: rs, _, hg =>
          have ho := hg.ok hk
          have hx := ho x (List.mem_cons_self ..)
          unfold okRule at hx
          rw [Bool.and_eq_true] at hx
          refine ⟨hx.1, ho, ?_, Or.inl ⟨rfl, Or.inl hg.lvq⟩⟩
          have e : gramToks (startOf [] (x :: rs)) = (x :: rs).flatMap ruleToks := by
            unfold gramToks
            rw [if_pos (show (startOf [] (x :: rs)).1 = headOf (startOf [] (x :: rs)).2 from rfl)]
            rfl
          rw [e]
          exact hg.len
      | true =>
        obtain ⟨r1, rfl⟩ := sign_true hs
        dsimp only [List.tail_cons] at hp
        match r1 with
        | [] => cases hp
        | u :: r2 =>
          by_cases h1 : u.k = 1
          · have en : name (u :: r2) = some (u.s, r2) := if_pos h1
            rw [en] at hp
            dsimp only at hp
            obtain ⟨r3, ht3, e3⟩ := Option.map_eq_some_iff.mp hp
            cases e3
            obtain rfl := take_some ht3
            obtain ⟨k, s⟩ := u
            obtain rfl : k = 1 := h1
            subst e
            have hlv : leaves ([sg 37, ⟨1, s⟩, sg 59] ++ c) = ⟨1, s⟩ :: rs.flatMap rlv := by
              rw [leaves_app, hg.lvq]
              rfl
            refine ⟨[sg 37, ⟨1, s⟩, sg 59] ++ c, t, R, rfl, ht, ?_, hne, hle, hg.dep, fun hk => ?_⟩
            · refine nz_app ?_ hg.nz
              intro t ht
              simp only [List.mem_cons, List.not_mem_nil, or_false] at ht
              rcases ht with rfl | rfl | rfl
              · exact Or.inr (Or.inr rfl)
              · exact Or.inl rfl
              · exact Or.inr (Or.inr rfl)
            · have hgn : goodName s = true := (hk ⟨1, s⟩ (List.mem_append_left _ (by simp))).1 rfl
              have hsne : s ≠ [] := by rintro rfl; cases hgn
              have e1 : startOf s rs = (s, rs) := by
                unfold startOf
                rw [if_neg hsne]
              rw [e1]
              have hl := hg.len
              refine ⟨hgn, hg.ok fun t ht => hk t (List.mem_append_right _ ht), ?_, ?_⟩
              · unfold gramToks
                rw [List.length_append, List.length_append]
                dsimp only
                split
                · show 0 + _ ≤ 3 + _
                  omega
                · show 3 + _ ≤ 3 + _
                  omega
              · by_cases hh : s = headOf rs
                · exact Or.inl ⟨hh, Or.inr hlv⟩
                · exact Or.inr ⟨hh, hlv⟩
          · have en : name (u :: r2) = none := if_neg h1
            rw [en] at hp
            cases hp
/-- the tokens that are printed are read -/
theorem rule_back {x : List UInt8 × Nd} (hk : okRule x = true) (hd : (me MD x.2).put ≤ 16) (rest : List Tk) : pRule (ruleToks x ++ rest) = some (x, rest) := by
  unfold okRule at hk
  rw [Bool.and_eq_true] at hk
  obtain ⟨s, d⟩ := x
  have e : ruleToks (s, d) ++ rest = ⟨1, s⟩ :: sg 58 :: ((pr AT d).put ++ sg 59 :: rest) := by
    unfold ruleToks
    simp
  rw [e]
  unfold pRule
  have e1 : name (⟨1, s⟩ :: sg 58 :: ((pr AT d).put ++ sg 59 :: rest)) = some (s, sg 58 :: ((pr AT d).put ++ sg 59 :: rest)) := rfl
  have e2 : take 58 (sg 58 :: ((pr AT d).put ++ sg 59 :: rest)) = some ((pr AT d).put ++ sg 59 :: rest) := rfl
  have e3 : take 59 (sg 59 :: rest) = some rest := rfl
  rw [e1]
  dsimp only
  rw [e2]
  dsimp only
  rw [(hd_pr d hk.2).alt 0 (sg 59 :: rest) _ (stopP_sign 59 (by simp) rest) (by have h : (me MD d).put ≤ 16 := hd
                                                                                omega) (by
    unfold fuel
    rw [List.length_append]
    omega)]
  dsimp only
  rw [e3]
  rfl
theorem leaves_put {d : Nd} (hp : proper d = true) (hd : (me MD d).put ≤ 16) : leaves (pr AT d).put = lv d := by
  have h := (hd_pr d hp).alt 0 [sg 59] (4 * (pr AT d).put.length + 8) (stopP_sign 59 (by simp) []) (by omega) (Nat.le_refl _)
  obtain ⟨c, e, hc⟩ := (got _).alt 0 _ _ _ (by omega) h
  have : c = (pr AT d).put := (List.append_cancel_right e).symm
  rw [← this]
  exact hc.lvq
theorem leaves_rules : ∀ {l : List (List UInt8 × Nd)}, (∀ x ∈ l, okRule x = true) → (∀ x ∈ l, (me MD x.2).put ≤ 16) → leaves (l.flatMap ruleToks) = l.flatMap rlv := by
  intro l
  induction l with
  | nil => intro _ _; rfl
  | cons x l ih =>
    intro h1 h2
    rw [List.flatMap_cons, List.flatMap_cons, leaves_app, ih (fun y hy => h1 y (List.mem_cons_of_mem _ hy)) (fun y hy => h2 y (List.mem_cons_of_mem _ hy))]
    have hk := h1 x (List.mem_cons_self ..)
    unfold okRule at hk
    rw [Bool.and_eq_true] at hk
    have e : ruleToks x = [⟨1, x.1⟩] ++ ([sg 58] ++ ((pr AT x.2).put ++ [sg 59])) := rfl
    rw [e, leaves_app, leaves_app, leaves_app, leaves_sg, leaves_sg, leaves_put hk.2 (h2 x (List.mem_cons_self ..)), List.append_nil]
    rfl
theorem rules_back : ∀ (l rs : List (List UInt8 × Nd)) (n : Nat), (∀ x ∈ l, okRule x = true) → (∀ x ∈ l, (me MD x.2).put ≤ 16) → rs.length + l.length ≤ 64 → (rs ≠ [] ∨ l ≠ []) → l.length < n →
    pRules n rs (l.flatMap ruleToks ++ [⟨4, []⟩]) = some (rs ++ l) := by
  intro l
  induction l with
  | nil =>
    intro rs n _ _ _ hne hn
    obtain ⟨m, rfl⟩ : ∃ m, n = m + 1 := ⟨n - 1, by omega⟩
    rw [pRules.eq_def]
    show (if (4 : Nat) = 0 then none else if (4 : Nat) = 4 ∧ rs ≠ [] then some rs else _) = _
    rw [if_neg (by decide), if_pos ⟨rfl, hne.elim id fun h => absurd rfl h⟩, List.append_nil]
  | cons x l ih =>
    intro rs n h1 h2 h64 _ hn
    simp only [List.length_cons] at h64 hn
    obtain ⟨m, rfl⟩ : ∃ m, n = m + 1 := ⟨n - 1, by omega⟩
    have hr := rule_back (h1 x (List.mem_cons_self ..)) (h2 x (List.mem_cons_self ..)) (l.flatMap ruleToks ++ [⟨4, []⟩])
    have e : (x :: l).flatMap ruleToks ++ [⟨4, []⟩] = ⟨1, x.1⟩ :: ((sg 58 :: ((pr AT x.2).put ++ [sg 59])) ++ (l.flatMap ruleToks ++ [⟨4, []⟩])) := by
      rw [List.flatMap_cons, List.append_assoc]
      rfl
    have e0 : ruleToks x ++ (l.flatMap ruleToks ++ [⟨4, []⟩]) = ⟨1, x.1⟩ :: ((sg 58 :: ((pr AT x.2).put ++ [sg 59])) ++ (l.flatMap ruleToks ++ [⟨4, []⟩])) := rfl
    rw [e0] at hr
    rw [e, pRules.eq_def]
    dsimp only
    rw [if_neg (by show ¬ (1 : Nat) = 0; decide), if_neg (fun h => absurd h.1 (by show ¬ (1 : Nat) = 4; decide)), if_neg (by omega), hr]
    dsimp only
    rw [ih (rs ++ [x]) m (fun y hy => h1 y (List.mem_cons_of_mem _ hy)) (fun y hy => h2 y (List.mem_cons_of_mem _ hy)) (by rw [List.length_append]; show rs.length + 1 + l.length ≤ 64; omega) (Or.inl (by simp)) (by omega), List.append_assoc]
    rfl
theorem gram_back {g : Gm} (hn : goodName g.1 = true) (hk : ∀ x ∈ g.2, okRule x = true) (hd : ∀ x ∈ g.2, (me MD x.2).put ≤ 16) (h64 : g.2.length ≤ 64) (hne : g.2 ≠ []) : pGram (gramToks g ++ [⟨4, []⟩]) = some g := by
  obtain ⟨st, rs⟩ := g
  have hl : rs.length < (rs.flatMap ruleToks ++ [(⟨4, []⟩ : Tk)]).length + 1 := by
    have : ∀ l : List (List UInt8 × Nd), l.length ≤ (l.flatMap ruleToks).length := by
      intro l
      induction l with
      | nil => exact Nat.le_refl _
      | cons x l ih =>
        rw [List.flatMap_cons, List.length_append, List.length_cons]
        have e : (ruleToks x).length = ((pr AT x.2).put ++ [sg 59]).length + 1 + 1 := rfl
        omega
    have := this rs
    rw [List.length_append]
    omega
  have hb := rules_back rs [] ((rs.flatMap ruleToks ++ [(⟨4, []⟩ : Tk)]).length + 1) hk hd (by show 0 + rs.length ≤ 64; have h : rs.length ≤ 64 := h64; omega) (Or.inr hne) hl
  unfold pGram gramToks
  by_cases hs : st = headOf rs
  · match rs, hne, hs, hb with
    | x :: rs, _, hs, hb =>
      have e : (if (st, x :: rs).1 = headOf (st, x :: rs).2 then ([] : List Tk) else [sg 37, ⟨1, st⟩, sg 59]) = [] := if_pos hs
      rw [e, List.nil_append]
      have ep : pStart ((x :: rs).flatMap ruleToks ++ [⟨4, []⟩]) = some ([], (x :: rs).flatMap ruleToks ++ [⟨4, []⟩]) := by
        have e0 : (x :: rs).flatMap ruleToks ++ [⟨4, []⟩] = ⟨1, x.1⟩ :: ((sg 58 :: ((pr AT x.2).put ++ [sg 59])) ++ (rs.flatMap ruleToks ++ [⟨4, []⟩])) := by
          rw [List.flatMap_cons, List.append_assoc]
          rfl
        rw [e0]
        unfold pStart
        have e1 : sign 37 (⟨1, x.1⟩ :: ((sg 58 :: ((pr AT x.2).put ++ [sg 59])) ++ (rs.flatMap ruleToks ++ [⟨4, []⟩]))) = some false := by
          show (if (1 : Nat) = 0 then none else some (decide ((⟨1, x.1⟩ : Tk) = sg 37))) = _
          rw [if_neg (by decide), decide_eq_false (fun h => by have := congrArg Tk.k h; cases this)]
        rw [e1]
      dsimp only at ep ⊢
      rw [ep]
      dsimp only
      rw [hb]
      show some (startOf [] (x :: rs)) = _
      rw [hs]
      rfl
  · have e : (if (st, rs).1 = headOf (st, rs).2 then ([] : List Tk) else [sg 37, ⟨1, st⟩, sg 59]) = [sg 37, ⟨1, st⟩, sg 59] := if_neg hs
    dsimp only at e ⊢
    rw [e, List.append_assoc]
    have ep : pStart ([sg 37, ⟨1, st⟩, sg 59] ++ (rs.flatMap ruleToks ++ [⟨4, []⟩])) = some (st, rs.flatMap ruleToks ++ [⟨4, []⟩]) := rfl
    rw [ep]
    dsimp only
    rw [hb]
    show some (startOf st rs) = _
    unfold startOf
    rw [if_neg (by rintro rfl; cases hn)]
/-- the law -/
structure Written (s : List UInt8) (g : Gm) : Prop where
  nm : goodName g.1 = true
  ok : ∀ x ∈ g.2, okRule x = true
  ne : g.2 ≠ []
  back : (text g).length ≤ 65536 → parse (text g) = some g ∧ ∃ a b, scan s = some a ∧ scan (text g) = some b ∧ (leaves a = leaves b ∨ (g.1 = headOf g.2 ∧ ∃ t, leaves a = t :: leaves b))
theorem leaves_end (c : List Tk) : leaves (c ++ [⟨4, []⟩]) = leaves c := by
  rw [leaves_app]
  exact List.append_nil _
theorem parse_written {s : List UInt8} {g : Gm} (h : parse s = some g) : Written s g := by
  unfold parse at h
  cases hs : scan s with
  | none => rw [hs] at h; cases h
  | some ts =>
    rw [hs] at h
    dsimp only at h
    have hs' := hs
    unfold scan at hs'
    split at hs'
    · cases hs'
    · obtain ⟨cs, rfl, hcs⟩ := toks_shape _ _ _ hs'
      obtain ⟨c, t, R, e, ht, hg⟩ := gram_got h
      obtain ⟨rfl, hlen⟩ := seen_all cs c _ t R (fun x hx => (hcs x hx).1) hg.nz ht e
      obtain ⟨h1, h2, h3, h4⟩ := hg.ok fun x hx => (hcs x hx).2
      refine ⟨h1, h2, hg.ne, fun hl => ?_⟩
      have hsc := scan_text h1 h2 hl
      refine ⟨?_, _, _, hs, hsc, ?_⟩
      · unfold parse
        rw [hsc]
        dsimp only
        rw [seen_id1 _ _ (by omega)]
        exact gram_back h1 h2 hg.dep hg.le hg.ne
      · rw [leaves_end, leaves_end]
        unfold gramToks
        rw [leaves_app, leaves_rules h2 hg.dep]
        rcases h4 with ⟨hh, h4 | h4⟩ | ⟨hh, h4⟩
        · rw [if_pos hh, h4]
          exact Or.inl rfl
        · rw [if_pos hh, h4]
          exact Or.inr ⟨hh, _, rfl⟩
        · rw [if_neg hh, h4]
          exact Or.inl rfl
end Gr
end Go.Proofs.YtebocnpbiiejmaaDoor
