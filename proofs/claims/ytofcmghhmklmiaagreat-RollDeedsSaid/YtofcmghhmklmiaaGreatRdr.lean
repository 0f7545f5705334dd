/- Reading a chain of values from bytes into a block of the call's own. -/
import Derived.Test.YtofcmghhmklmiaaGreatRef1
import Derived.Test.YtofcmghhmklmiaaGreatInAll
namespace Go.Proofs.YtofcmghhmklmiaaGreat
open Go.RowKit

def Two2 (b c k : Nat) : Prop := k = b ∨ k = c
/-- At b lies an In (or the document's) with the bytes s left and the error e; block C holds the cells cs. All of it was made since w0; since wS only these two blocks have changed. -/
structure Rdr (w0 wS w1 : World) (b : Nat) (s : List UInt8) (e : Int) (C : Nat) (cs : List Value) : Prop where
  in_ : InAt w1 b s e
  len : s.length ≤ 281474976710656
  hb : w0.heap.size ≤ b
  hC : w0.heap.size ≤ C
  lb : b < wS.heap.size
  lC : C < wS.heap.size
  ne : b ≠ C
  cell : ∀ j, w1.cell? ⟨C, j, none⟩ = cs[j]?
  fr : ∀ j, w1.frozen? ⟨C, j, none⟩ = false
  base : Frm No w0 wS
  mov : Frm (Two2 b C) wS w1
theorem Rdr.frm {w0 wS w1 : World} {b C : Nat} {s : List UInt8} {e : Int} {cs : List Value} (h : Rdr w0 wS w1 b s e C cs) : Frm No w0 w1 :=
  h.base.trans h.mov (fun _ _ h => h) (fun i hi hs => by
    have := h.hb
    have := h.hC
    rcases hs with rfl | rfl <;> omega)
theorem Rdr.restart {w0 wS w1 : World} {b C : Nat} {s : List UInt8} {e : Int} {cs : List Value} (h : Rdr w0 wS w1 b s e C cs) : Rdr w0 w1 w1 b s e C cs :=
  ⟨h.in_, h.len, h.hb, h.hC, Nat.lt_of_lt_of_le h.lb h.mov.size, Nat.lt_of_lt_of_le h.lC h.mov.size, h.ne, h.cell, h.fr, h.frm, Frm.refl _ _⟩
theorem Rdr.in1 {w0 wS w1 w2 : World} {b C : Nat} {s s' : List UInt8} {e e' : Int} {cs : List Value} (h : Rdr w0 wS w1 b s e C cs) (hi : InAt w2 b s' e') (hl : s'.length ≤ s.length) (hf : Frm (One b) w1 w2) : Rdr w0 wS w2 b s' e' C cs :=
  have hC : C < w1.heap.size := Nat.lt_of_lt_of_le h.lC h.mov.size
  ⟨hi, by have := h.len; omega, h.hb, h.hC, h.lb, h.lC, h.ne, fun j => (hf.cell (p := ⟨C, j, none⟩) hC (fun e => h.ne e.symm)).trans (h.cell j), fun j => (hf.frozen (p := ⟨C, j, none⟩) hC (fun e => h.ne e.symm)).trans (h.fr j),
    h.base, h.mov.trans hf (fun _ _ h => h) (fun _ _ h => .inl h)⟩
theorem Rdr.set {w0 wS w1 : World} {b C : Nat} {s : List UInt8} {e : Int} {cs : List Value} (h : Rdr w0 wS w1 b s e C cs) (j : Nat) (hj : j < cs.length) (x : Value) : Rdr w0 wS (w1.setCell ⟨C, j, none⟩ x) b s e C (cs.set j x) := by
  have hS : Frm (Two2 C C) w1 (w1.setCell ⟨C, j, none⟩ x) := (Frm.refl _ _).setCell (p := ⟨C, j, none⟩) (fun _ => .inl rfl) x
  have hb : b < w1.heap.size := h.in_.lt
  have hnb : ¬ Two2 C C b := fun e => by rcases e with e | e <;> exact h.ne e
  refine ⟨h.in_.frm hS hnb, h.len, h.hb, h.hC, h.lb, h.lC, h.ne, fun i => ?_, fun i => ?_, h.base, h.mov.trans hS (fun _ _ h => h) (fun _ _ e => .inr (by rcases e with e | e <;> exact e))⟩
  · by_cases hij : i = j
    · subst hij
      have hc := h.cell i
      rw [List.getElem?_eq_getElem hj] at hc
      rw [World.cell?_setCell_same' w1 ⟨C, i, none⟩ x (by rw [hc]; rfl)]
      simp [hj]
    · rw [World.cell?_setCell_other w1 ⟨C, j, none⟩ ⟨C, i, none⟩ x (by intro e; injection e with _ e; omega), h.cell i, List.getElem?_set]
      rw [if_neg (by omega)]
  · simpa using h.fr i
theorem Rdr.start {w0 w1 : World} {b : Nat} {s : List UInt8} {e : Int} (hi : InAt w1 b s e) (hl : s.length ≤ 281474976710656) (hb : w0.heap.size ≤ b) (hf : Frm No w0 w1) (cs : List Value) (T : TypeId) :
    Rdr w0 (w1.alloc (.cells cs.toArray T)) (w1.alloc (.cells cs.toArray T)) b s e w1.heap.size cs :=
  ⟨hi.frm ((Frm.refl No _).alloc _) (fun h => h), hl, hb, hf.size, by have := hi.lt; simp; omega, by simp, by have := hi.lt; omega,
    fun j => by rw [World.cell?_alloc_at _ _ _ _ rfl]; simp, fun j => World.frozen?_alloc_at _ _ _ _ rfl, hf.alloc _, Frm.refl _ _⟩

def RdrP (w0 wS : World) (b : Nat) (s : List UInt8) (e : Int) (C : Nat) (cs : List Value) (v : Value) (r : Ending) (w' : World) : Prop := r = .returned v ∧ Rdr w0 wS w' b s e C cs
section
variable {w0 wS w1 : World} {b C : Nat} {s s' : List UInt8} {e e' : Int} {cs : List Value}
theorem Rdr.int {n : Int} (h : Rdr w0 wS w1 b s e C cs) (hr : Oct.rInt s e = (n, s', e')) : Calls Tryz.prog 42 #[.pointer (some ⟨b, 0, none⟩)] w1 (RdrP w0 wS b s' e' C cs (.int .i64 n)) := by
  refine (in_int b s e w1 h.in_ h.len).mono ?_
  have hl := rInt_len s e
  rw [hr] at hl ⊢
  rintro r w2 ⟨rfl, hi, hf⟩
  exact ⟨rfl, h.in1 hi hl hf⟩
theorem Rdr.text {n : List UInt8} (h : Rdr w0 wS w1 b s e C cs) (hr : Oct.rText s e = (n, s', e')) : Calls Tryz.prog 41 #[.pointer (some ⟨b, 0, none⟩)] w1 (RdrP w0 wS b s' e' C cs (.string ⟨n.toArray⟩)) := by
  refine (in_text b s e w1 h.in_ h.len).mono ?_
  have hl := (rText_len s e).1
  rw [hr] at hl ⊢
  rintro r w2 ⟨rfl, hi, hf⟩
  exact ⟨rfl, h.in1 hi hl hf⟩
theorem nTexts_len : ∀ (n : Nat) (s : List UInt8) (acc : List (List UInt8)), (Oct.nTexts n s acc).2.1.length ≤ s.length := by
  intro n
  induction n with
  | zero => intro s acc; exact Nat.le_refl _
  | succ n ih =>
    intro s acc
    have h := (rText_len s 0).1
    unfold Oct.nTexts
    split
    · exact Nat.le_trans (ih _ _) h
    · exact h
theorem rTexts_len (most : Int) (s : List UInt8) (e : Int) : (Oct.rTexts most s e).2.1.length ≤ s.length := by
  have h := rSize_len most s e
  unfold Oct.rTexts
  split
  · exact Nat.le_trans (nTexts_len _ _ _) h
  · exact h
theorem nTexts_small : ∀ (n : Nat) (s : List UInt8) (acc : List (List UInt8)), (∀ x ∈ acc, x.length ≤ 65536) → ∀ x ∈ (Oct.nTexts n s acc).1, x.length ≤ 65536 := by
  intro n
  induction n with
  | zero => intro s acc h; exact h
  | succ n ih =>
    intro s acc h
    have h1 := (rText_len s 0).2
    unfold Oct.nTexts
    split
    · refine ih _ _ (fun x hx => ?_)
      rcases List.mem_append.1 hx with hx | hx
      · exact h x hx
      · simp only [List.mem_singleton] at hx
        subst hx
        exact h1
    · intro x hx
      cases hx
theorem rTexts_small (most : Int) (s : List UInt8) (e : Int) : ∀ x ∈ (Oct.rTexts most s e).1, x.length ≤ 65536 := by
  unfold Oct.rTexts
  split
  · exact nTexts_small _ _ _ (fun x hx => by cases hx)
  · intro x hx
    cases hx
/-- The texts read lie in a row made since. -/
def RdrLP (w0 wS : World) (b : Nat) (s : List UInt8) (e : Int) (C : Nat) (cs : List Value) (w1 : World) (vs : List Value) (r : Ending) (w' : World) : Prop :=
  ∃ v, r = .returned v ∧ w'.ownsRow w1.heap.size 9 1 v vs.length vs ∧ Rdr w0 wS w' b s e C cs ∧ (∀ k, v.ownBlock = some k → ¬ Two2 b C k)
theorem Rdr.texts {ns : List (List UInt8)} {most : Int} (h : Rdr w0 wS w1 b s e C cs) (hr : Oct.rTexts most s e = (ns, s', e')) :
    Calls Tryz.prog 43 #[.pointer (some ⟨b, 0, none⟩), .int .i64 most] w1 (RdrLP w0 wS b s' e' C cs w1 (strsV ns)) := by
  refine (in_texts b most s e w1 h.in_ h.len).mono ?_
  have hl := rTexts_len most s e
  rw [hr] at hl ⊢
  rintro r w2 ⟨v, rfl, hown, hi, hf⟩
  refine ⟨v, rfl, hown, h.in1 hi hl hf, fun k hk => ?_⟩
  have h1 := (hown.lt k hk).1
  have h2 := Nat.lt_of_lt_of_le h.lC h.mov.size
  have h3 := Nat.lt_of_lt_of_le h.lb h.mov.size
  rintro (rfl | rfl) <;> omega
end
end Go.Proofs.YtofcmghhmklmiaaGreat
