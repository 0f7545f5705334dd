/- One token, one escape, in plain words. -/
import Derived.Test.YtebocnpbiiejmaaDoorGrThm
import Derived.Lib.IndexLaws
namespace Go.Proofs.YtebocnpbiiejmaaDoor
namespace Gr
theorem indexByte_eq (l : List UInt8) (c : UInt8) : Lib.indexByte l c = match l.findIdx? (· == c) with
    | some k => (k : Int)
    | none => -1 := by
  induction l with
  | nil => rfl
  | cons b l ih =>
    rw [Lib.indexByte, List.findIdx?_cons]
    by_cases h : (b == c) = true
    · rw [if_pos h, if_pos h]
      rfl
    · rw [if_neg h, if_neg h, ih]
      cases hf : l.findIdx? (· == c) with
      | none => rfl
      | some k =>
        show (if ((k : Int) == -1) = true then (-1 : Int) else (k : Int) + 1) = ((k + 1 : Nat) : Int)
        rw [if_neg (by rw [beq_iff_eq]; omega)]
        omega
theorem indexByte_mem {l : List UInt8} {c : UInt8} (h : c ∈ l) : ∃ k : Nat, Lib.indexByte l c = (k : Int) := by
  rw [indexByte_eq]
  cases hf : l.findIdx? (· == c) with
  | some k => exact ⟨k, rfl⟩
  | none =>
    rw [List.findIdx?_eq_none_iff] at hf
    have := hf c h
    simp at this
theorem indexByte_not {l : List UInt8} {c : UInt8} (h : c ∉ l) : Lib.indexByte l c = -1 := by
  rw [indexByte_eq]
  cases hf : l.findIdx? (· == c) with
  | none => rfl
  | some k =>
    have h1 := List.findIdx?_eq_some_iff_getElem.mp hf
    obtain ⟨hk, he, _⟩ := h1
    exact absurd (List.getElem_mem hk) (by rw [beq_iff_eq.mp he]; exact h)
theorem hexv_lt {c : UInt8} {k : Nat} (h : hexv c = some k) : k < 16 := by
  obtain ⟨hk, _⟩ := List.findIdx?_eq_some_iff_getElem.mp h
  exact hk
theorem hexv_some {c : UInt8} {k : Nat} (h : hexv c = some k) : Lib.indexByte hexes c = (k : Int) := by
  rw [indexByte_eq]
  have : hexes.findIdx? (· == c) = some k := h
  rw [this]
theorem hexv_none {c : UInt8} (h : hexv c = none) : Lib.indexByte hexes c = -1 := by
  rw [indexByte_eq]
  have : hexes.findIdx? (· == c) = none := h
  rw [this]
def esc1 : List UInt8 → Option (UInt8 × List UInt8)
  | [] => none
  | c :: l1 =>
    if c = 92 ∨ c = 39 ∨ c = 34 then some (c, l1)
    else if c = 110 then some (10, l1)
    else if c = 116 then some (9, l1)
    else if c = 120 then
      match l1 with
      | x :: y :: l2 =>
        match hexv x, hexv y with
        | some m, some n => some (UInt8.ofNat (16 * m + n), l2)
        | _, _ => none
      | _ => none
    else none
theorem litS_esc1 {q : UInt8} (hq : q ≠ 92) (out l : List UInt8) : litS q out (92 :: l) = match esc1 l with
    | none => none
    | some (x, r) => litS q (out ++ [x]) r := by
  rw [litS.eq_def]
  dsimp only
  rw [if_neg (fun e => hq e.symm), if_pos rfl]
  match l with
  | [] => rfl
  | c :: l1 =>
    dsimp only [esc1]
    by_cases h3 : c = 92 ∨ c = 39 ∨ c = 34
    · rw [if_pos h3, if_pos h3]
    · rw [if_neg h3, if_neg h3]
      by_cases h4 : c = 110
      · rw [if_pos h4, if_pos h4]
      · rw [if_neg h4, if_neg h4]
        by_cases h5 : c = 116
        · rw [if_pos h5, if_pos h5]
        · rw [if_neg h5, if_neg h5]
          by_cases h6 : c = 120
          · rw [if_pos h6, if_pos h6]
            match l1 with
            | [] => rfl
            | [_] => rfl
            | x :: y :: l2 =>
              dsimp only
              cases hexv x with
              | none => rfl
              | some m =>
                cases hexv y with
                | none => rfl
                | some n => rfl
          · rw [if_neg h6, if_neg h6]
theorem litS_end (q : UInt8) (out l : List UInt8) : litS q out (q :: l) = some (out, l) := by
  rw [litS.eq_def]
  dsimp only
  rw [if_pos rfl]
theorem litS_nil (q : UInt8) (out : List UInt8) : litS q out [] = none := by rw [litS.eq_def]
theorem litS_bad {q b : UInt8} (h1 : b ≠ q) (h2 : b ≠ 92) (h3 : b < 32 ∨ 126 < b) (out l : List UInt8) : litS q out (b :: l) = none := by
  rw [litS.eq_def]
  dsimp only
  rw [if_neg h1, if_neg h2, if_pos h3]
theorem litS_one {q b : UInt8} (h1 : b ≠ q) (h2 : b ≠ 92) (h3 : ¬ (b < 32 ∨ 126 < b)) (out l : List UInt8) : litS q out (b :: l) = litS q (out ++ [b]) l := by
  rw [litS.eq_def]
  dsimp only
  rw [if_neg h1, if_neg h2, if_neg h3]
def tok1 : List UInt8 → Option (Tk × List UInt8)
  | [] => none
  | b :: r =>
    if isLetter b then
      if 32 < ((b :: r).takeWhile inName).length then none else some (⟨1, (b :: r).takeWhile inName⟩, (b :: r).dropWhile inName)
    else if b = 39 ∨ b = 34 then
      match litS b [] r with
      | none => none
      | some (t, r1) => if t = [] ∨ 16 < t.length then none else some (⟨2, t⟩, r1)
    else if b ∈ signs then some (sg b, r)
    else none
theorem toks_tok1 (n : Nat) (l : List UInt8) : toks (n + 1) l = match skip false l with
    | [] => some [⟨4, []⟩]
    | b :: r => match tok1 (b :: r) with
      | none => none
      | some (t, r1) => (toks n r1).map (t :: ·) := by
  rw [toks]
  cases skip false l with
  | nil => rfl
  | cons b r =>
    dsimp only [tok1]
    by_cases h1 : isLetter b = true
    · rw [if_pos h1, if_pos h1]
      by_cases h2 : 32 < ((b :: r).takeWhile inName).length
      · rw [if_pos h2, if_pos h2]
      · rw [if_neg h2, if_neg h2]
    · rw [if_neg h1, if_neg h1]
      by_cases h2 : b = 39 ∨ b = 34
      · rw [if_pos h2, if_pos h2]
        cases litS b [] r with
        | none => rfl
        | some p =>
          dsimp only
          by_cases h3 : p.1 = [] ∨ 16 < p.1.length
          · rw [if_pos h3, if_pos h3]
          · rw [if_neg h3, if_neg h3]
      · rw [if_neg h2, if_neg h2]
        by_cases h3 : b ∈ signs
        · rw [if_pos h3, if_pos h3]
        · rw [if_neg h3, if_neg h3]
end Gr
end Go.Proofs.YtebocnpbiiejmaaDoor
