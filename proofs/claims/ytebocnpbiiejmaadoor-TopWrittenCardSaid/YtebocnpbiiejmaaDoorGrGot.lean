/- What the parser has read: a proper tree, of which no more is printed than was read. -/
import Derived.Test.YtebocnpbiiejmaaDoorGrPar
namespace Go.Proofs.YtebocnpbiiejmaaDoor
namespace Gr
def okTk (t : Tk) : Prop := (t.k = 1 → goodName t.s = true) ∧ (t.k = 2 → t.s ≠ [] ∧ t.s.length ≤ 16)
mutual
def lv : Nd → List Tk
  | .mk k s l => if k = 1 ∨ k = 2 then [⟨k, s⟩] else lvs l
def lvs : List Nd → List Tk
  | [] => []
  | a :: l => lv a ++ lvs l
end
theorem lvs_snoc (l : List Nd) (d : Nd) : lvs (l ++ [d]) = lvs l ++ lv d := by
  induction l with
  | nil => exact List.append_nil _
  | cons a l ih =>
    show lv a ++ lvs (l ++ [d]) = lv a ++ lvs l ++ lv d
    rw [ih, List.append_assoc]
theorem sumSep_snoc {l : List Nat} (hl : l ≠ []) (x : Nat) : sumSep (l ++ [x]) = sumSep l + 1 + x := by
  induction l with
  | nil => exact absurd rfl hl
  | cons a l ih =>
    cases l with
    | nil => show a + (1 + x) = a + 1 + x; omega
    | cons b l =>
      have := ih (by simp)
      show a + (1 + sumSep (b :: l ++ [x])) = a + (1 + sumSep (b :: l)) + 1 + x
      rw [this]; omega
theorem maxs_snoc (l : List Nat) (x : Nat) : maxs (l ++ [x]) = max (maxs l) x := by
  induction l with
  | nil => show max x 0 = max 0 x; omega
  | cons a l ih =>
    show max a (maxs (l ++ [x])) = max (max a (maxs l)) x
    rw [ih]; omega
theorem leaves_app (a b : List Tk) : leaves (a ++ b) = leaves a ++ leaves b := List.filter_append ..
theorem leaves_sg (c : UInt8) : leaves [sg c] = [] := rfl
/-- consumed: a node's tokens -/
structure Cs (o : Nat) (c : List Tk) (d : Nd) (f : Me → Mv → Nat) : Prop where
  nz : ∀ t ∈ c, t.k = 1 ∨ t.k = 2 ∨ t.k = 3
  ok : (∀ t ∈ c, okTk t) → proper d = true
  len : f ML (me ML d) ≤ c.length
  dep : o + f MD (me MD d) ≤ 16
  lvq : leaves c = lv d
structure Cr (o : Nat) (c : List Tk) (l : List Nd) (f : Me → Mv → Nat) (b : Bool) : Prop where
  nz : ∀ t ∈ c, t.k = 1 ∨ t.k = 2 ∨ t.k = 3
  ok : (∀ t ∈ c, okTk t) → propers l = true
  len : ML.jn b (l.map fun d => f ML (me ML d)) ≤ c.length
  dep : o + maxs (l.map fun d => f MD (me MD d)) ≤ 16
  lvq : leaves c = lvs l
def fput : Me → Mv → Nat := fun _ p => p.put
theorem Cs.mono {o : Nat} {c : List Tk} {d : Nd} {f g : Me → Mv → Nat} (h : Cs o c d f) (h1 : g ML (me ML d) ≤ f ML (me ML d)) (h2 : g MD (me MD d) ≤ f MD (me MD d)) : Cs o c d g :=
  ⟨h.nz, h.ok, Nat.le_trans h1 h.len, by have := h.dep; omega, h.lvq⟩
theorem put_le_row (M : Me) (p : Mv) : p.put ≤ Mv.row M p := by unfold Mv.row; split <;> omega
theorem row_le_item (M : Me) (p : Mv) : Mv.row M p ≤ Mv.item M p := by
  unfold Mv.row Mv.item
  by_cases h : p.k = 4
  · rw [if_pos h, if_pos (Or.inr h)]; exact Nat.le_refl _
  · rw [if_neg h]; split <;> omega
theorem item_le (M : Me) (p : Mv) : Mv.item M p ≤ p.put + M.w := by unfold Mv.item; split <;> omega
theorem atom_le {M : Me} {p : Mv} (h : MvF M p) : Mv.atom M p ≤ p.put + M.w := by
  unfold Mv.atom
  split
  · omega
  · split
    · rename_i h5
      have := h.f1 (Or.inl h5)
      omega
    · split
      · rename_i h6
        have := h.f1 (Or.inr h6)
        omega
      · omega
theorem again_le {M : Me} (p : Mv) : Mv.again M p ≤ Mv.atom M p + M.m := by
  unfold Mv.again
  split
  · omega
  · rename_i h
    unfold Mv.atom
    rw [if_neg (by omega), if_neg (by omega), if_neg (by omega)]
    omega
theorem propers_snoc (l : List Nd) (d : Nd) : propers (l ++ [d]) = (propers l && proper d) := by
  rw [propers_eq, propers_eq, List.all_append]
  simp
theorem one_rows {o : Nat} {c : List Tk} {l : List Nd} (hl : l ≠ []) (h : Cr o c l Mv.row true) : Cs o c (one 4 l) fput := by
  match l with
  | [] => exact absurd rfl hl
  | [d] =>
    refine ⟨h.nz, fun hk => ?_, Nat.le_trans (put_le_row _ _) h.len, ?_, ?_⟩
    · have := h.ok hk
      have h' : (proper d && propers []) = true := this
      rw [Bool.and_eq_true] at h'
      exact h'.1
    · have := h.dep
      have h1 := put_le_row MD (me MD d)
      have h2 : maxs ([d].map fun d => Mv.row MD (me MD d)) = max (Mv.row MD (me MD d)) 0 := rfl
      rw [h2] at this
      show o + (me MD d).put ≤ 16
      omega
    · have := h.lvq
      rw [this]
      exact List.append_nil _
  | a :: b :: l =>
    refine ⟨h.nz, fun hk => ?_, ?_, ?_, h.lvq⟩
    · show (okNode 4 [] (l.length + 1 + 1) && propers (a :: b :: l)) = true
      rw [h.ok hk]
      unfold okNode
      simp
    · have := h.len
      have e : fput ML (me ML (one 4 (a :: b :: l))) = ML.jn true ((a :: b :: l).map fun d => Mv.row ML (me ML d)) := by
        show ML.jn true ((mes ML (a :: b :: l)).map (Mv.row ML)) = _
        rw [mes_eq, List.map_map]
        rfl
      rw [e]
      exact this
    · have := h.dep
      have e : fput MD (me MD (one 4 (a :: b :: l))) = maxs ((a :: b :: l).map fun d => Mv.row MD (me MD d)) := by
        show maxs ((mes MD (a :: b :: l)).map (Mv.row MD)) = _
        rw [mes_eq, List.map_map]
        rfl
      rw [e]
      exact this
theorem seq_items {o : Nat} {c : List Tk} {l : List Nd} (hne : l.length ≠ 1) (h : Cr o c l Mv.item false) : Cs o c (.mk 3 [] l) Mv.row := by
  refine ⟨h.nz, fun hk => ?_, ?_, ?_, h.lvq⟩
  · show (okNode 3 [] l.length && propers l) = true
    rw [h.ok hk]
    unfold okNode
    simp [hne]
  · have := h.len
    have e : Mv.row ML (me ML (.mk 3 [] l)) = ML.jn false (l.map fun d => Mv.item ML (me ML d)) := by
      show ML.jn false ((mes ML l).map (Mv.item ML)) = _
      rw [mes_eq, List.map_map]
      rfl
    rw [e]
    exact this
  · have := h.dep
    have e : Mv.row MD (me MD (.mk 3 [] l)) = maxs (l.map fun d => Mv.item MD (me MD d)) := by
      show maxs ((mes MD l).map (Mv.item MD)) = _
      rw [mes_eq, List.map_map]
      rfl
    rw [e]
    exact this
theorem one_items {o : Nat} {c : List Tk} {l : List Nd} (h : Cr o c l Mv.item false) : Cs o c (one 3 l) Mv.row := by
  match l with
  | [] => exact seq_items (by decide) h
  | [d] =>
    refine ⟨h.nz, fun hk => ?_, Nat.le_trans (row_le_item _ _) h.len, ?_, ?_⟩
    · have h' : (proper d && propers []) = true := h.ok hk
      rw [Bool.and_eq_true] at h'
      exact h'.1
    · have := h.dep
      have h1 := row_le_item MD (me MD d)
      have h2 : maxs ([d].map fun d => Mv.item MD (me MD d)) = max (Mv.item MD (me MD d)) 0 := rfl
      rw [h2] at this
      show o + Mv.row MD (me MD d) ≤ 16
      omega
    · rw [h.lvq]
      exact List.append_nil _
  | a :: b :: l => exact seq_items (by simp) h
theorem nz_app {a b : List Tk} (ha : ∀ t ∈ a, t.k = 1 ∨ t.k = 2 ∨ t.k = 3) (hb : ∀ t ∈ b, t.k = 1 ∨ t.k = 2 ∨ t.k = 3) : ∀ t ∈ a ++ b, t.k = 1 ∨ t.k = 2 ∨ t.k = 3 := fun t ht => (List.mem_append.mp ht).elim (ha t) (hb t)
theorem nz_sg (c : UInt8) : ∀ t ∈ [sg c], t.k = 1 ∨ t.k = 2 ∨ t.k = 3 := fun t ht => by
  rw [List.mem_singleton.mp ht]; exact Or.inr (Or.inr rfl)
theorem Cr.rows {o : Nat} {c c1 : List Tk} {l : List Nd} {d : Nd} (hl : l ≠ []) (h : Cr o c l Mv.row true) (h1 : Cs o c1 d Mv.row) : Cr o (c ++ ([sg 124] ++ c1)) (l ++ [d]) Mv.row true := by
  refine ⟨nz_app h.nz (nz_app (nz_sg _) h1.nz), fun hk => ?_, ?_, ?_, ?_⟩
  · rw [propers_snoc, h.ok fun t ht => hk t (List.mem_append_left _ ht), h1.ok fun t ht => hk t (List.mem_append_right _ (List.mem_append_right _ ht))]
    rfl
  · rw [List.map_append]
    show sumSep (_ ++ [_]) ≤ _
    rw [sumSep_snoc (by simpa using hl), List.length_append, List.length_append]
    have e1 := h.len
    have e2 := h1.len
    have e1' : sumSep (l.map fun d => Mv.row ML (me ML d)) ≤ c.length := e1
    show sumSep (l.map fun d => Mv.row ML (me ML d)) + 1 + Mv.row ML (me ML d) ≤ c.length + (1 + c1.length)
    omega
  · rw [List.map_append]
    show o + maxs (_ ++ [_]) ≤ 16
    rw [maxs_snoc]
    have e1 := h.dep
    have e2 := h1.dep
    show o + max (maxs (l.map fun d => Mv.row MD (me MD d))) (Mv.row MD (me MD d)) ≤ 16
    omega
  · rw [leaves_app, leaves_app, leaves_sg, lvs_snoc, h.lvq, h1.lvq]
    rfl
theorem Cr.items {o : Nat} {c c1 : List Tk} {l : List Nd} {d : Nd} (h : Cr o c l Mv.item false) (h1 : Cs o c1 d Mv.item) : Cr o (c ++ c1) (l ++ [d]) Mv.item false := by
  refine ⟨nz_app h.nz h1.nz, fun hk => ?_, ?_, ?_, ?_⟩
  · rw [propers_snoc, h.ok fun t ht => hk t (List.mem_append_left _ ht), h1.ok fun t ht => hk t (List.mem_append_right _ ht)]
    rfl
  · rw [List.map_append]
    show (_ ++ [_]).sum ≤ _
    rw [List.sum_append, List.length_append]
    have e1 := h.len
    have e2 := h1.len
    have e1' : (l.map fun d => Mv.item ML (me ML d)).sum ≤ c.length := e1
    show (l.map fun d => Mv.item ML (me ML d)).sum + (Mv.item ML (me ML d) + 0) ≤ c.length + c1.length
    omega
  · rw [List.map_append]
    show o + maxs (_ ++ [_]) ≤ 16
    rw [maxs_snoc]
    have e1 := h.dep
    have e2 := h1.dep
    show o + max (maxs (l.map fun d => Mv.item MD (me MD d))) (Mv.item MD (me MD d)) ≤ 16
    omega
  · rw [leaves_app, lvs_snoc, h.lvq, h1.lvq]
theorem sign_true {c : UInt8} {ts : List Tk} (h : sign c ts = some true) : ∃ r, ts = sg c :: r := by
  match ts with
  | [] => cases h
  | t :: r =>
    have h' : (if t.k = 0 then none else some (decide (t = sg c))) = some true := h
    by_cases h0 : t.k = 0
    · rw [if_pos h0] at h'; cases h'
    · rw [if_neg h0] at h'
      exact ⟨r, by rw [of_decide_eq_true (Option.some.inj h')]⟩
theorem take_some {c : UInt8} {ts r : List Tk} (h : take c ts = some r) : ts = sg c :: r := by
  unfold take at h
  cases hs : sign c ts with
  | none => rw [hs] at h; cases h
  | some b =>
    cases b with
    | false => rw [hs] at h; cases h
    | true =>
      rw [hs] at h
      obtain ⟨r', rfl⟩ := sign_true hs
      cases h
      rfl
theorem suf_some {d d1 : Nd} {r r1 : List Tk} (h : suf d r = some (d1, r1)) : (d1 = d ∧ r1 = r) ∨ (∃ k c, (k = 5 ∨ k = 6 ∨ k = 7) ∧ r = sg c :: r1 ∧ d1 = .mk k [] [d]) := by
  match r with
  | [] => cases h
  | t :: l =>
    have h' : (if t.k = 0 then none else if t = sg 63 then some (Nd.mk 5 [] [d], l) else if t = sg 42 then some (Nd.mk 6 [] [d], l) else if t = sg 43 then some (Nd.mk 7 [] [d], l) else some (d, t :: l)) = some (d1, r1) := h
    by_cases h0 : t.k = 0
    · rw [if_pos h0] at h'; cases h'
    · rw [if_neg h0] at h'
      by_cases h1 : t = sg 63
      · rw [if_pos h1] at h'; cases h'; exact Or.inr ⟨5, 63, Or.inl rfl, by rw [h1], rfl⟩
      · rw [if_neg h1] at h'
        by_cases h2 : t = sg 42
        · rw [if_pos h2] at h'; cases h'; exact Or.inr ⟨6, 42, Or.inr (Or.inl rfl), by rw [h2], rfl⟩
        · rw [if_neg h2] at h'
          by_cases h3 : t = sg 43
          · rw [if_pos h3] at h'; cases h'; exact Or.inr ⟨7, 43, Or.inr (Or.inr rfl), by rw [h3], rfl⟩
          · rw [if_neg h3] at h'; cases h'; exact Or.inl ⟨rfl, rfl⟩
/-- a sign behind an atom -/
theorem Cs.mark {o : Nat} {c : List Tk} {d : Nd} (h : Cs o c d Mv.atom) {k : Nat} (hk : k = 5 ∨ k = 6 ∨ k = 7) (m : UInt8) : Cs o (c ++ [sg m]) (.mk k [] [d]) Mv.item := by
  refine ⟨nz_app h.nz (nz_sg _), fun ho => ?_, ?_, ?_, ?_⟩
  · have hp : propers [d] = true := by
      show (proper d && true) = true
      rw [h.ok fun t ht => ho t (List.mem_append_left _ ht)]
      rfl
    show (okNode k [] 1 && propers [d]) = true
    rw [hp]
    rcases hk with rfl | rfl | rfl <;> rfl
  · have e := h.len
    have e2 := again_le (M := ML) (me ML d)
    have e3 : ML.m = 1 := rfl
    rw [List.length_append]
    show _ ≤ c.length + 1
    rcases hk with rfl | rfl | rfl
    · show Mv.again ML (me ML d) ≤ _; omega
    · show Mv.again ML (me ML d) ≤ _; omega
    · show Mv.atom ML (me ML d) + ML.m ≤ _; omega
  · have e := h.dep
    have e2 := again_le (M := MD) (me MD d)
    have e3 : MD.m = 0 := rfl
    rcases hk with rfl | rfl | rfl
    · show o + Mv.again MD (me MD d) ≤ _; omega
    · show o + Mv.again MD (me MD d) ≤ _; omega
    · show o + (Mv.atom MD (me MD d) + MD.m) ≤ _; omega
  · rw [leaves_app, leaves_sg, List.append_nil, h.lvq]
    rcases hk with rfl | rfl | rfl <;> exact (List.append_nil _).symm
/-- brackets around -/
theorem Cs.paren {o : Nat} {c : List Tk} {d : Nd} (h : Cs (o + 1) c d fput) (a e : UInt8) : Cs o (sg a :: (c ++ [sg e])) d Mv.atom ∧ Cs o (sg a :: (c ++ [sg e])) d Mv.item := by
  have hb : Cs o (sg a :: (c ++ [sg e])) d (fun M p => p.put + M.w) := by
    refine ⟨nz_app (nz_sg a) (nz_app h.nz (nz_sg e)), fun ho => h.ok fun t ht => ho t (List.mem_cons_of_mem _ (List.mem_append_left _ ht)), ?_, ?_, ?_⟩
    · have := h.len
      have e1 : (me ML d).put ≤ c.length := this
      rw [List.length_cons, List.length_append]
      show (me ML d).put + 2 ≤ c.length + 1 + 1
      omega
    · have := h.dep
      have e1 : o + 1 + (me MD d).put ≤ 16 := this
      show o + ((me MD d).put + 1) ≤ 16
      omega
    · have e1 : leaves (sg a :: (c ++ [sg e])) = leaves ([sg a] ++ (c ++ [sg e])) := rfl
      rw [e1, leaves_app, leaves_app, leaves_sg, leaves_sg, h.lvq]
      exact List.append_nil _
  exact ⟨hb.mono (atom_le (me_f ML (by decide) d)) (atom_le (me_f MD (by decide) d)), hb.mono (item_le _ _) (item_le _ _)⟩
theorem Cs.brack {o : Nat} {c : List Tk} {d : Nd} (h : Cs (o + 1) c d fput) (a e : UInt8) {k : Nat} (hk : k = 5 ∨ k = 6) : Cs o (sg a :: (c ++ [sg e])) (.mk k [] [d]) Mv.atom ∧ Cs o (sg a :: (c ++ [sg e])) (.mk k [] [d]) Mv.item := by
  have hb : Cs o (sg a :: (c ++ [sg e])) (.mk k [] [d]) (fun M p => p.kid + M.w) := by
    refine ⟨nz_app (nz_sg a) (nz_app h.nz (nz_sg e)), fun ho => ?_, ?_, ?_, ?_⟩
    · have hp : propers [d] = true := by
        show (proper d && true) = true
        rw [h.ok fun t ht => ho t (List.mem_cons_of_mem _ (List.mem_append_left _ ht))]
        rfl
      show (okNode k [] 1 && propers [d]) = true
      rw [hp]
      rcases hk with rfl | rfl <;> rfl
    · have := h.len
      have e1 : (me ML d).put ≤ c.length := this
      rw [List.length_cons, List.length_append]
      show (me ML d).put + 2 ≤ c.length + 1 + 1
      omega
    · have := h.dep
      have e1 : o + 1 + (me MD d).put ≤ 16 := this
      show o + ((me MD d).put + 1) ≤ 16
      omega
    · have e1 : leaves (sg a :: (c ++ [sg e])) = leaves ([sg a] ++ (c ++ [sg e])) := rfl
      rw [e1, leaves_app, leaves_app, leaves_sg, leaves_sg, h.lvq]
      rcases hk with rfl | rfl
      · show [] ++ (lv d ++ []) = lv d ++ []
        rfl
      · show [] ++ (lv d ++ []) = lv d ++ []
        rfl
  constructor
  · refine hb.mono ?_ ?_
    · rcases hk with rfl | rfl
      · exact Nat.le_refl _
      · exact Nat.le_refl _
    · rcases hk with rfl | rfl
      · exact Nat.le_refl _
      · exact Nat.le_refl _
  · refine hb.mono ?_ ?_
    · rcases hk with rfl | rfl
      · exact (me_f ML (by decide) d).f2
      · exact (me_f ML (by decide) d).f2
    · rcases hk with rfl | rfl
      · exact (me_f MD (by decide) d).f2
      · exact (me_f MD (by decide) d).f2
theorem leaf_cs (o : Nat) (ho : o ≤ 16) {k : Nat} (hk : k = 1 ∨ k = 2) (s : List UInt8) : Cs o [⟨k, s⟩] (.mk k s []) Mv.atom ∧ Cs o [⟨k, s⟩] (.mk k s []) Mv.item := by
  have hn : ∀ t ∈ [(⟨k, s⟩ : Tk)], t.k = 1 ∨ t.k = 2 ∨ t.k = 3 := fun t ht => by
    rw [List.mem_singleton.mp ht]
    rcases hk with rfl | rfl
    · exact Or.inl rfl
    · exact Or.inr (Or.inl rfl)
  have hp : (∀ t ∈ [(⟨k, s⟩ : Tk)], okTk t) → proper (.mk k s []) = true := fun h => by
    have h1 := h _ (List.mem_singleton.mpr rfl)
    show (okNode k s 0 && true) = true
    unfold okNode
    rcases hk with rfl | rfl
    · rw [if_pos rfl, h1.1 rfl]; rfl
    · have := h1.2 rfl
      rw [if_neg (by decide), if_pos rfl, decide_eq_true this.1, decide_eq_true this.2]; rfl
  have hl : leaves [(⟨k, s⟩ : Tk)] = lv (.mk k s []) := by rcases hk with rfl | rfl <;> rfl
  rcases hk with rfl | rfl
  · exact ⟨⟨hn, hp, Nat.le_refl _, ho, hl⟩, ⟨hn, hp, Nat.le_refl _, ho, hl⟩⟩
  · exact ⟨⟨hn, hp, Nat.le_refl _, ho, hl⟩, ⟨hn, hp, Nat.le_refl _, ho, hl⟩⟩
structure Got (n : Nat) : Prop where
  alt : ∀ o ts d r, o ≤ 16 → pAlt n o ts = some (d, r) → ∃ c, ts = c ++ r ∧ Cs o c d fput
  alts : ∀ o acc c0 ts d r, acc ≠ [] → Cr o c0 acc Mv.row true → pAlts n o acc ts = some (d, r) → ∃ c, ts = c ++ r ∧ Cs o (c0 ++ c) d fput
  row : ∀ o acc c0 ts d r, Cr o c0 acc Mv.item false → pRow n o acc ts = some (d, r) → ∃ c, ts = c ++ r ∧ Cs o (c0 ++ c) d Mv.row
  atom : ∀ o ts d r, o ≤ 16 → pAtom n o ts = some (some d, r) → ∃ c, ts = c ++ r ∧ 1 ≤ c.length ∧ Cs o c d Mv.atom ∧ Cs o c d Mv.item
  none : ∀ o ts r, pAtom n o ts = some (none, r) → r = ts
  around : ∀ o e ts d r, o ≤ 16 → pAround n o e ts = some (d, r) → ∃ c, ts = c ++ [sg e] ++ r ∧ Cs (o + 1) c d fput
theorem cr_nil {o : Nat} (ho : o ≤ 16) (f : Me → Mv → Nat) (b : Bool) : Cr o [] [] f b :=
  ⟨fun _ h => absurd h (List.not_mem_nil), fun _ => rfl, (match b with | true => Nat.le_refl _ | false => Nat.le_refl _), ho, rfl⟩
theorem cr_le {o : Nat} {c : List Tk} {l : List Nd} {f : Me → Mv → Nat} {b : Bool} (h : Cr o c l f b) : o ≤ 16 := by have := h.dep; omega
theorem got (n : Nat) : Got n := by
  induction n with
  | zero =>
    exact ⟨fun _ _ _ _ _ h => (by rw [pAlt] at h; cases h), fun _ _ _ _ _ _ _ _ h => (by rw [pAlts] at h; cases h), fun _ _ _ _ _ _ _ h => (by rw [pRow] at h; cases h), fun _ _ _ _ _ h => (by rw [pAtom] at h; cases h), fun _ _ _ h => (by rw [pAtom] at h; cases h), fun _ _ _ _ _ _ h => (by rw [pAround] at h; cases h)⟩
  | succ n ih =>
    refine ⟨?_, ?_, ?_, ?_, ?_, ?_⟩
    · intro o ts d r ho h
      rw [pAlt] at h
      cases hr : pRow n o [] ts with
      | none => rw [hr] at h; cases h
      | some p =>
        obtain ⟨d1, r1⟩ := p
        rw [hr] at h
        obtain ⟨c, rfl, h1⟩ := ih.row _ _ [] _ _ _ (cr_nil ho _ _) hr
        obtain ⟨c2, rfl, h2⟩ := ih.alts o [d1] ([] ++ c) r1 d r (by simp) (by
          refine ⟨h1.nz, fun hk => ?_, h1.len, ?_, ?_⟩
          · show (proper d1 && true) = true
            rw [h1.ok hk]; rfl
          · have := h1.dep
            show o + max (Mv.row MD (me MD d1)) 0 ≤ 16
            omega
          · rw [h1.lvq]; exact (List.append_nil _).symm) h
        exact ⟨c ++ c2, (List.append_assoc ..).symm, h2⟩
    · intro o acc c0 ts d r hne hc h
      rw [pAlts] at h
      cases hs : sign 124 ts with
      | none => rw [hs] at h; cases h
      | some b =>
        rw [hs] at h
        cases b with
        | false =>
          cases h
          refine ⟨[], rfl, ?_⟩
          rw [List.append_nil]
          exact one_rows hne hc
        | true =>
          obtain ⟨rt, rfl⟩ := sign_true hs
          dsimp only [List.tail_cons] at h
          cases hr : pRow n o [] rt with
          | none => rw [hr] at h; cases h
          | some p =>
            obtain ⟨d1, r1⟩ := p
            rw [hr] at h
            obtain ⟨c, rfl, h1⟩ := ih.row _ _ [] _ _ _ (cr_nil (cr_le hc) _ _) hr
            obtain ⟨c2, rfl, h2⟩ := ih.alts o (acc ++ [d1]) (c0 ++ ([sg 124] ++ c)) r1 d r (by simp) (hc.rows hne h1) h
            exact ⟨[sg 124] ++ c ++ c2, by simp, by rw [← List.append_assoc]; exact h2⟩
    · intro o acc c0 ts d r hc h
      rw [pRow] at h
      cases ha : pAtom n o ts with
      | none => rw [ha] at h; cases h
      | some p =>
        obtain ⟨x, r0⟩ := p
        rw [ha] at h
        cases x with
        | none =>
          cases h
          obtain rfl := ih.none _ _ _ ha
          refine ⟨[], rfl, ?_⟩
          rw [List.append_nil]
          exact one_items hc
        | some d0 =>
          dsimp only at h
          obtain ⟨c, rfl, -, h1, h2⟩ := ih.atom _ _ _ _ (cr_le hc) ha
          cases hs : suf d0 r0 with
          | none => rw [hs] at h; cases h
          | some p =>
            obtain ⟨d1, r1⟩ := p
            rw [hs] at h
            rcases suf_some hs with ⟨rfl, rfl⟩ | ⟨k, m, hk, rfl, rfl⟩
            · obtain ⟨c2, rfl, h3⟩ := ih.row o (acc ++ [d1]) (c0 ++ c) r1 d r (hc.items h2) h
              exact ⟨c ++ c2, (List.append_assoc ..).symm, by rw [← List.append_assoc]; exact h3⟩
            · obtain ⟨c2, rfl, h3⟩ := ih.row o (acc ++ [_]) (c0 ++ (c ++ [sg m])) r1 d r (hc.items (h1.mark hk m)) h
              exact ⟨c ++ [sg m] ++ c2, by simp, by rw [← List.append_assoc]; exact h3⟩
    · intro o ts d r ho h
      match ts with
      | [] => rw [pAtom] at h; cases h
      | t :: l =>
        rw [pAtom] at h
        by_cases h0 : t.k = 0
        · rw [if_pos h0] at h; cases h
        · rw [if_neg h0] at h
          by_cases h1 : t.k = 1
          · rw [if_pos h1] at h
            cases h
            obtain ⟨k, s⟩ := t
            obtain rfl : k = 1 := h1
            exact ⟨[⟨1, s⟩], rfl, Nat.le_refl _, leaf_cs o ho (Or.inl rfl) s⟩
          · rw [if_neg h1] at h
            by_cases h2 : t.k = 2
            · rw [if_pos h2] at h
              cases h
              obtain ⟨k, s⟩ := t
              obtain rfl : k = 2 := h2
              exact ⟨[⟨2, s⟩], rfl, Nat.le_refl _, leaf_cs o ho (Or.inr rfl) s⟩
            · rw [if_neg h2] at h
              by_cases h3 : t = sg 40
              · rw [if_pos h3] at h
                obtain ⟨p, hp, e⟩ := Option.map_eq_some_iff.mp h
                cases e
                obtain ⟨c, rfl, hc⟩ := ih.around _ _ _ _ _ ho hp
                exact ⟨sg 40 :: (c ++ [sg 41]), by rw [h3]; rfl, by simp, hc.paren 40 41⟩
              · rw [if_neg h3] at h
                by_cases h4 : t = sg 91
                · rw [if_pos h4] at h
                  obtain ⟨p, hp, e⟩ := Option.map_eq_some_iff.mp h
                  cases e
                  obtain ⟨c, rfl, hc⟩ := ih.around _ _ _ _ _ ho hp
                  exact ⟨sg 91 :: (c ++ [sg 93]), by rw [h4]; rfl, by simp, hc.brack 91 93 (Or.inl rfl)⟩
                · rw [if_neg h4] at h
                  by_cases h5 : t = sg 123
                  · rw [if_pos h5] at h
                    obtain ⟨p, hp, e⟩ := Option.map_eq_some_iff.mp h
                    cases e
                    obtain ⟨c, rfl, hc⟩ := ih.around _ _ _ _ _ ho hp
                    exact ⟨sg 123 :: (c ++ [sg 125]), by rw [h5]; rfl, by simp, hc.brack 123 125 (Or.inr rfl)⟩
                  · rw [if_neg h5] at h
                    cases h
    · intro o ts r h
      match ts with
      | [] => rw [pAtom] at h; cases h
      | t :: l =>
        rw [pAtom] at h
        by_cases h0 : t.k = 0
        · rw [if_pos h0] at h; cases h
        · rw [if_neg h0] at h
          by_cases h1 : t.k = 1
          · rw [if_pos h1] at h; cases h
          · rw [if_neg h1] at h
            by_cases h2 : t.k = 2
            · rw [if_pos h2] at h; cases h
            · rw [if_neg h2] at h
              by_cases h3 : t = sg 40
              · rw [if_pos h3] at h
                obtain ⟨p, hp, e⟩ := Option.map_eq_some_iff.mp h
                cases e
              · rw [if_neg h3] at h
                by_cases h4 : t = sg 91
                · rw [if_pos h4] at h
                  obtain ⟨p, hp, e⟩ := Option.map_eq_some_iff.mp h
                  cases e
                · rw [if_neg h4] at h
                  by_cases h5 : t = sg 123
                  · rw [if_pos h5] at h
                    obtain ⟨p, hp, e⟩ := Option.map_eq_some_iff.mp h
                    cases e
                  · rw [if_neg h5] at h
                    cases h
                    rfl
    · intro o e ts d r ho h
      rw [pAround] at h
      by_cases h16 : o = 16
      · rw [if_pos h16] at h; cases h
      · rw [if_neg h16] at h
        cases ha : pAlt n (o + 1) ts with
        | none => rw [ha] at h; cases h
        | some p =>
          obtain ⟨d1, r1⟩ := p
          rw [ha] at h
          dsimp only at h
          obtain ⟨r2, ht, e2⟩ := Option.map_eq_some_iff.mp h
          cases e2
          obtain ⟨c, rfl, hc⟩ := ih.alt _ _ _ _ (by omega) ha
          rw [take_some ht]
          exact ⟨c, by simp, hc⟩
end Gr
end Go.Proofs.YtebocnpbiiejmaaDoor
