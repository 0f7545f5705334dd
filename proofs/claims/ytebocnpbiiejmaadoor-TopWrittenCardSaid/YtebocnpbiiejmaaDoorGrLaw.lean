/- The words of a grammar's text, in plain words: tokens of bytes, trees of tokens, and both printed. -/
import Derived.WalkKit
namespace Go.Proofs.YtebocnpbiiejmaaDoor
namespace Gr
/-- a token: its kind (1 name, 2 literal, 3 sign, 4 the end, 0 one too many), its text -/
structure Tk where
  k : Nat
  s : List UInt8
  deriving DecidableEq
def sg (c : UInt8) : Tk := ⟨3, [c]⟩
/-- a node: its kind (1 name, 2 literal, 3 row, 4 choice, 5 perhaps, 6 again, 7 at least once), its text, its kids -/
inductive Nd where
  | mk (k : Nat) (s : List UInt8) (l : List Nd) : Nd
def Nd.k : Nd → Nat
  | .mk k _ _ => k
def Nd.s : Nd → List UInt8
  | .mk _ s _ => s
def Nd.l : Nd → List Nd
  | .mk _ _ l => l
def isLetter (c : UInt8) : Bool := (decide (97 ≤ c) && decide (c ≤ 122)) || (decide (65 ≤ c) && decide (c ≤ 90))
def inName (c : UInt8) : Bool := isLetter c || (decide (48 ≤ c) && decide (c ≤ 57)) || c == 95 || c == 45
def signs : List UInt8 := [58, 124, 59, 40, 41, 91, 93, 123, 125, 42, 43, 63, 37]
def hexes : List UInt8 := [48, 49, 50, 51, 52, 53, 54, 55, 56, 57, 97, 98, 99, 100, 101, 102]
def isBlank (c : UInt8) : Bool := c == 32 || c == 9 || c == 10 || c == 13
/-- blanks and comments skipped (true: within a comment) -/
def skip : Bool → List UInt8 → List UInt8
  | _, [] => []
  | true, c :: l => if c = 10 then skip false l else skip true l
  | false, c :: l => if c = 35 then skip true l else if isBlank c then skip false l else c :: l
def hexv (c : UInt8) : Option Nat := hexes.findIdx? (· == c)
/-- a literal up to its end: its bytes, what is left -/
def litS (q : UInt8) : List UInt8 → List UInt8 → Option (List UInt8 × List UInt8)
  | _, [] => none
  | out, b :: l =>
    if b = q then some (out, l)
    else if b = 92 then
      match l with
      | [] => none
      | c :: l1 =>
        if c = 92 ∨ c = 39 ∨ c = 34 then litS q (out ++ [c]) l1
        else if c = 110 then litS q (out ++ [10]) l1
        else if c = 116 then litS q (out ++ [9]) l1
        else if c = 120 then
          match l1 with
          | x :: y :: l2 =>
            match hexv x, hexv y with
            | some m, some n => litS q (out ++ [UInt8.ofNat (16 * m + n)]) l2
            | _, _ => none
          | _ => none
        else none
    else if b < 32 ∨ 126 < b then none
    else litS q (out ++ [b]) l
/-- the tokens of what is left -/
def toks : Nat → List UInt8 → Option (List Tk)
  | 0, _ => none
  | n + 1, l =>
    match skip false l with
    | [] => some [⟨4, []⟩]
    | b :: r =>
      if isLetter b then
        if 32 < ((b :: r).takeWhile inName).length then none
        else (toks n ((b :: r).dropWhile inName)).map (⟨1, (b :: r).takeWhile inName⟩ :: ·)
      else if b = 39 ∨ b = 34 then
        match litS b [] r with
        | none => none
        | some (t, r1) => if t = [] ∨ 16 < t.length then none else (toks n r1).map (⟨2, t⟩ :: ·)
      else if b ∈ signs then (toks n r).map (sg b :: ·)
      else none
def scan (s : List UInt8) : Option (List Tk) := if 65536 < s.length then none else toks (s.length + 1) s
def goodName (s : List UInt8) : Bool :=
  match s with
  | [] => false
  | c :: r => isLetter c && (c :: r).all inName && decide ((c :: r).length ≤ 32)

/-- the tokens as the parser sees them: from the place n on only the end is let by -/
def seen : Nat → List Tk → List Tk
  | _, [] => []
  | 0, t :: l => (if t.k = 4 then t else ⟨0, t.s⟩) :: seen 0 l
  | n + 1, t :: l => t :: seen n l
/-- is the next token a sign (none: it is one too many) -/
def sign (c : UInt8) : List Tk → Option Bool
  | [] => none
  | t :: _ => if t.k = 0 then none else some (decide (t = sg c))
def take (c : UInt8) (ts : List Tk) : Option (List Tk) :=
  match sign c ts with
  | some true => some ts.tail
  | _ => none
def name (ts : List Tk) : Option (List UInt8 × List Tk) :=
  match ts with
  | [] => none
  | t :: r => if t.k = 1 then some (t.s, r) else none
/-- a node with the sign behind it -/
def suf (d : Nd) (ts : List Tk) : Option (Nd × List Tk) :=
  match ts with
  | [] => none
  | t :: r =>
    if t.k = 0 then none
    else if t = sg 63 then some (.mk 5 [] [d], r)
    else if t = sg 42 then some (.mk 6 [] [d], r)
    else if t = sg 43 then some (.mk 7 [] [d], r)
    else some (d, ts)
def one (k : Nat) (l : List Nd) : Nd :=
  match l with
  | [d] => d
  | l => .mk k [] l
mutual
/-- rows, behind those read -/
def pAlts : Nat → Nat → List Nd → List Tk → Option (Nd × List Tk)
  | 0, _, _, _ => none
  | n + 1, o, acc, ts =>
    match sign 124 ts with
    | none => none
    | some false => some (one 4 acc, ts)
    | some true =>
      match pRow n o [] ts.tail with
      | none => none
      | some (d, r) => pAlts n o (acc ++ [d]) r
/-- a row, behind the items read -/
def pRow : Nat → Nat → List Nd → List Tk → Option (Nd × List Tk)
  | 0, _, _, _ => none
  | n + 1, o, acc, ts =>
    match pAtom n o ts with
    | none => none
    | some (none, r) => some (one 3 acc, r)
    | some (some d, r) =>
      match suf d r with
      | none => none
      | some (d1, r1) => pRow n o (acc ++ [d1]) r1
def pAtom : Nat → Nat → List Tk → Option (Option Nd × List Tk)
  | 0, _, _ => none
  | n + 1, o, ts =>
    match ts with
    | [] => none
    | t :: r =>
      if t.k = 0 then none
      else if t.k = 1 then some (some (.mk 1 t.s []), r)
      else if t.k = 2 then some (some (.mk 2 t.s []), r)
      else if t = sg 40 then (pAround n o 41 r).map fun p => (some p.1, p.2)
      else if t = sg 91 then (pAround n o 93 r).map fun p => (some (.mk 5 [] [p.1]), p.2)
      else if t = sg 123 then (pAround n o 125 r).map fun p => (some (.mk 6 [] [p.1]), p.2)
      else some (none, ts)
/-- behind the bracket that opens -/
def pAround : Nat → Nat → UInt8 → List Tk → Option (Nd × List Tk)
  | 0, _, _, _ => none
  | n + 1, o, e, ts =>
    if o = 16 then none
    else
      match pAlt n (o + 1) ts with
      | none => none
      | some (d, r) => (take e r).map fun r1 => (d, r1)
def pAlt : Nat → Nat → List Tk → Option (Nd × List Tk)
  | 0, _, _ => none
  | n + 1, o, ts =>
    match pRow n o [] ts with
    | none => none
    | some (d, r) => pAlts n o [d] r
end
/-- fuel enough for what is left -/
def fuel (ts : List Tk) : Nat := 4 * ts.length + 8
def pRule (ts : List Tk) : Option ((List UInt8 × Nd) × List Tk) :=
  match name ts with
  | none => none
  | some (s, r) =>
    match take 58 r with
    | none => none
    | some r1 =>
      match pAlt (fuel r1) 0 r1 with
      | none => none
      | some (d, r2) => (take 59 r2).map fun r3 => ((s, d), r3)
def pRules : Nat → List (List UInt8 × Nd) → List Tk → Option (List (List UInt8 × Nd))
  | 0, _, _ => none
  | n + 1, rs, ts =>
    match ts with
    | [] => none
    | t :: r =>
      if t.k = 0 then none
      else if t.k = 4 ∧ rs ≠ [] then some rs
      else if rs.length = 64 then none
      else
        match pRule (t :: r) with
        | none => none
        | some (x, r1) => pRules n (rs ++ [x]) r1
/-- a grammar: its start, its rules -/
abbrev Gm := List UInt8 × List (List UInt8 × Nd)
def startOf (st : List UInt8) (rs : List (List UInt8 × Nd)) : Gm :=
  (if st = [] then (match rs with | [] => [] | x :: _ => x.1) else st, rs)
/-- the start, where it is told -/
def pStart (ts : List Tk) : Option (List UInt8 × List Tk) :=
  match sign 37 ts with
  | none => none
  | some false => some ([], ts)
  | some true =>
    match name ts.tail with
    | none => none
    | some (s, r) => (take 59 r).map fun r1 => (s, r1)
def pGram (ts : List Tk) : Option Gm :=
  match pStart ts with
  | none => none
  | some (st, r) => (pRules (r.length + 1) [] r).map (startOf st)
def parse (s : List UInt8) : Option Gm :=
  match scan s with
  | none => none
  | some ts => pGram (seen 4096 ts)

/-- printed: to bytes, to tokens: what a sign, a blank, a name, a literal is -/
structure Alf (α : Type) where
  sg : UInt8 → List α
  sp : List α
  nm : List UInt8 → List α
  lt : List UInt8 → List α
/-- a node printed: its kind; itself; its first kid -/
structure Pr (α : Type) where
  k : Nat
  put : List α
  kid : List α
namespace Pr
variable {α : Type}
def wrap (A : Alf α) (a b : UInt8) (l : List α) : List α := A.sg a ++ (l ++ A.sg b)
def item (A : Alf α) (p : Pr α) : List α := if p.k = 3 ∨ p.k = 4 then wrap A 40 41 p.put else p.put
def row (A : Alf α) (p : Pr α) : List α := if p.k = 4 then wrap A 40 41 p.put else p.put
def atom (A : Alf α) (p : Pr α) : List α :=
  if p.k = 1 ∨ p.k = 2 then p.put
  else if p.k = 5 then wrap A 91 93 p.kid
  else if p.k = 6 then wrap A 123 125 p.kid
  else wrap A 40 41 p.put
def again (A : Alf α) (a m b : UInt8) (p : Pr α) : List α :=
  if p.k = 1 ∨ p.k = 2 ∨ p.k = 5 ∨ p.k = 6 then atom A p ++ A.sg m
  else wrap A a b p.put
end Pr
section
variable {α : Type}
def joined (sep : List α) : List (List α) → List α
  | [] => []
  | [a] => a
  | a :: b :: l => a ++ (sep ++ joined sep (b :: l))
def first (l : List (Pr α)) : Pr α :=
  match l with
  | [] => ⟨0, [], []⟩
  | a :: _ => a
def build (A : Alf α) (k : Nat) (s : List UInt8) (l : List (Pr α)) : Pr α :=
  ⟨k,
   if k = 1 then A.nm s
   else if k = 2 then A.lt s
   else if k = 3 then joined A.sp (l.map (Pr.item A))
   else if k = 4 then joined (A.sg 124) (l.map (Pr.row A))
   else if k = 5 then Pr.again A 91 63 93 (first l)
   else if k = 6 then Pr.again A 123 42 125 (first l)
   else Pr.atom A (first l) ++ A.sg 43,
   (first l).put⟩
mutual
def pr (A : Alf α) : Nd → Pr α
  | .mk k s l => build A k s (prs A l)
def prs (A : Alf α) : List Nd → List (Pr α)
  | [] => []
  | a :: l => pr A a :: prs A l
end
theorem prs_eq (A : Alf α) (l : List Nd) : prs A l = l.map (pr A) := by
  induction l with
  | nil => rfl
  | cons a l ih =>
    show pr A a :: prs A l = _
    rw [ih]
    rfl
end
/-- a literal printed -/
def hexd (n : Nat) : UInt8 := hexes.getD n 0
def esc (q b : UInt8) : List UInt8 :=
  if b = q ∨ b = 92 then [92, b]
  else if b = 10 then [92, 110]
  else if b = 9 then [92, 116]
  else if b < 32 ∨ 126 < b then [92, 120, hexd (b.toNat / 16), hexd (b.toNat % 16)]
  else [b]
def quoteOf (s : List UInt8) : UInt8 := if s.count 34 < s.count 39 then 34 else 39
def quote (s : List UInt8) : List UInt8 := [quoteOf s] ++ (s.flatMap (esc (quoteOf s)) ++ [quoteOf s])
def AB : Alf UInt8 := ⟨fun c => [c], [32], fun s => s, quote⟩
def AT : Alf Tk := ⟨fun c => [sg c], [], fun s => [⟨1, s⟩], fun s => [⟨2, s⟩]⟩
def ruleText (x : List UInt8 × Nd) : List UInt8 := x.1 ++ ([58, 32] ++ ((pr AB x.2).put ++ [59, 10]))
def headOf (rs : List (List UInt8 × Nd)) : List UInt8 :=
  match rs with
  | [] => []
  | x :: _ => x.1
def text (g : Gm) : List UInt8 :=
  (if g.1 = headOf g.2 then [] else [37] ++ (g.1 ++ [59, 10])) ++ g.2.flatMap ruleText
def ruleToks (x : List UInt8 × Nd) : List Tk := ⟨1, x.1⟩ :: sg 58 :: ((pr AT x.2).put ++ [sg 59])
def gramToks (g : Gm) : List Tk :=
  (if g.1 = headOf g.2 then [] else [sg 37, ⟨1, g.1⟩, sg 59]) ++ g.2.flatMap ruleToks
/-- can a node be in a text -/
def okNode (k : Nat) (s : List UInt8) (n : Nat) : Bool :=
  if k = 1 then goodName s && decide (n = 0)
  else if k = 2 then decide (s ≠ []) && decide (s.length ≤ 16) && decide (n = 0)
  else (if k = 3 then decide (n ≠ 1) else if k = 4 then decide (1 < n) else if k = 5 ∨ k = 6 ∨ k = 7 then decide (n = 1) else false) && decide (s = [])
mutual
def proper : Nd → Bool
  | .mk k s l => okNode k s l.length && propers l
def propers : List Nd → Bool
  | [] => true
  | a :: l => proper a && propers l
end
theorem propers_eq (l : List Nd) : propers l = l.all proper := by
  induction l with
  | nil => rfl
  | cons a l ih =>
    show (proper a && propers l) = _
    rw [ih]
    rfl
/-- names and literals of tokens -/
def leaves (ts : List Tk) : List Tk := ts.filter fun t => decide (t.k < 3)
end Gr
end Go.Proofs.YtebocnpbiiejmaaDoor
