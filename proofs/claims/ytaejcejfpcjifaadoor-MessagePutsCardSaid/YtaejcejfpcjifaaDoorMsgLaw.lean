/- Messages as plain data: their bytes, which are good. No program is in sight here. -/
import Derived.Test.YtaejcejfpcjifaaDoorInAll
namespace Go.Proofs.YtaejcejfpcjifaaDoor
namespace Msg

structure Ent where
  client : Int
  number : Int
  text : List UInt8
structure Ms where
  kind : Int
  from_ : Int
  born : Int
  known : List Int
  view : Int
  last : Int
  op : Int
  commit : Int
  client : Int
  number : Int
  nonce : Int
  text : List UInt8
  full : Bool
  base : Int
  state : List UInt8
  entries : List Ent
instance : DecidableEq Ent := fun a b =>
  if h : a.client = b.client ∧ a.number = b.number ∧ a.text = b.text then isTrue (by cases a; cases b; simp_all) else isFalse (fun e => h (by subst e; exact ⟨rfl, rfl, rfl⟩))
instance : DecidableEq Ms := fun a b =>
  if h : a.kind = b.kind ∧ a.from_ = b.from_ ∧ a.born = b.born ∧ a.known = b.known ∧ a.view = b.view ∧ a.last = b.last ∧ a.op = b.op ∧ a.commit = b.commit ∧ a.client = b.client ∧ a.number = b.number ∧ a.nonce = b.nonce ∧ a.text = b.text ∧ a.full = b.full ∧ a.base = b.base ∧ a.state = b.state ∧ a.entries = b.entries then isTrue (by cases a; cases b; simp_all) else isFalse (fun e => h (by subst e; simp))

/-- Which fields a kind has, by letters. -/
def lets (k : Int) (full : Bool) : List UInt8 :=
  if k = 1 then [105, 110, 116] else if k = 2 then [118, 111, 99, 101] else if k = 3 then [118, 111] else if k = 4 then [118, 105, 110, 116] else if k = 5 then [118, 111, 99] else if k = 6 then [118]
  else if k = 7 then [118, 108, 111, 99, 84] else if k = 8 then [118, 111, 99, 84] else if k = 9 then [120] else if k = 10 then (if full = true then [118, 120, 102, 111, 99, 84] else [118, 120, 102])
  else if k = 11 then [118, 111] else if k = 12 then [118, 111, 99, 84] else []
def has (m : Ms) (c : UInt8) : Bool := decide (c ∈ lets m.kind m.full)

/-! Bytes -/
def entB (x : Ent) : List UInt8 := Oct.enc x.client ++ Oct.enc x.number ++ Oct.text x.text
def entsB (l : List Ent) : List UInt8 := l.flatMap entB
def tailB (m : Ms) : List UInt8 := Oct.enc m.base ++ Oct.text m.state ++ (Oct.enc m.entries.length ++ entsB m.entries)
def letB (m : Ms) (c : UInt8) : List UInt8 :=
  if c = 118 then Oct.enc m.view else if c = 108 then Oct.enc m.last else if c = 111 then Oct.enc m.op else if c = 99 then Oct.enc m.commit else if c = 105 then Oct.enc m.client else if c = 110 then Oct.enc m.number
  else if c = 116 then Oct.text m.text else if c = 101 then (match m.entries with | [] => [] | x :: _ => entB x) else if c = 120 then Oct.enc m.nonce else if c = 102 then Oct.flag m.full else tailB m
def headB (m : Ms) : List UInt8 := if m.kind = 1 then [] else Oct.enc m.from_ ++ Oct.enc m.born ++ Oct.ints m.known
def restB (m : Ms) : List UInt8 := headB m ++ (lets m.kind m.full).flatMap (letB m)
def body (m : Ms) : List UInt8 := Oct.enc m.kind ++ restB m

/-- Only its kind's fields. -/
def proj (m : Ms) : Ms :=
  { kind := m.kind, from_ := if m.kind = 1 then 0 else m.from_, born := if m.kind = 1 then 0 else m.born, known := if m.kind = 1 then [] else m.known, view := if has m 118 then m.view else 0, last := if has m 108 then m.last else 0, op := if has m 111 then m.op else 0,
    commit := if has m 99 then m.commit else 0, client := if has m 105 then m.client else 0, number := if has m 110 then m.number else 0, nonce := if has m 120 then m.nonce else 0, text := if has m 116 then m.text else [], full := has m 102 && m.full,
    base := if has m 84 then m.base else 0, state := if has m 84 then m.state else [], entries := if has m 101 || has m 84 then m.entries else [] }

/-! Good ones, as the code says it. -/
def num (n : Int) : Bool := decide (0 ≤ n) && decide (n ≤ 9007199254740992)
def amt (r : Int) : Bool := decide (r = 3) || decide (r = 5) || decide (r = 7)
def entG (x : Ent) : Bool := num x.client && decide (x.client < 3) && num x.number && decide (0 < x.number) && decide (x.text.length ≤ 8192)
def kindG (m : Ms) : Bool := decide (1 ≤ m.kind) && decide (m.kind ≤ 12)
def headG (m : Ms) (r : Int) : Bool := if m.kind = 1 then decide (m.known = []) else decide ((m.known.length : Int) = r) && decide (0 ≤ m.from_) && decide (m.from_ < r)
def nums (m : Ms) : List Int := m.known ++ [m.born, m.view, m.last, m.op, m.commit, m.client, m.number, m.nonce, m.base]
def lens (m : Ms) : Bool := decide (m.text.length ≤ 8192) && decide (m.state.length ≤ 65536) && decide (m.entries.length ≤ 64)
def tail (m : Ms) : Bool := decide (m.kind = 7) || decide (m.kind = 8) || decide (m.kind = 12) || (decide (m.kind = 10) && m.full)
def tailG (m : Ms) : Bool := decide (m.last ≤ m.view) && decide (m.commit ≤ m.op) && decide (m.base ≤ m.commit) && decide ((m.entries.length : Int) = m.op - m.base) && (decide (0 < m.base) || decide (m.state = []))
def fits (m : Ms) : Bool :=
  if m.kind = 1 ∨ m.kind = 4 then decide (m.client < 3) && decide (0 < m.number)
  else if m.kind = 2 then decide (m.entries.length = 1) && decide (0 < m.op) && decide (m.commit ≤ m.op)
  else if m.kind = 5 then decide (m.commit ≤ m.op)
  else if m.kind = 9 then decide (0 < m.nonce)
  else if m.kind = 10 ∧ m.nonce = 0 then false
  else if tail m = false then true else tailG m
def shape (m : Ms) (r : Int) : Bool := amt r && kindG m && headG m r && (nums m).all num && lens m && m.entries.all entG && fits m
def good (m : Ms) (r : Int) : Bool := shape m r && decide (proj m = m)

/-! Good ones, as the document says it. -/
def ours (m : Ms) (c : UInt8) (n : Int) : Bool := num n && (has m c || decide (n = 0))
def headN (m : Ms) (n : Int) : Bool := num n && (decide (1 < m.kind) || decide (n = 0))
def numsR (m : Ms) : Bool := headN m m.from_ && headN m m.born && ours m 118 m.view && ours m 108 m.last && ours m 111 m.op && ours m 99 m.commit && ours m 105 m.client && ours m 110 m.number && ours m 120 m.nonce && ours m 84 m.base
def knownR (m : Ms) (r : Int) : Bool := !(decide (m.kind = 1) && decide (0 < m.known.length) || decide (1 < m.kind) && (decide ((m.known.length : Int) ≠ r) || decide (r ≤ m.from_)))
def lensR (m : Ms) : Bool := !((decide (m.text ≠ []) && !has m 116) || decide (8192 < m.text.length) || (m.full && decide (m.kind ≠ 10)) || (decide (m.state ≠ []) && !has m 84) || decide (65536 < m.state.length) || decide (64 < m.entries.length))
def entR (x : Ent) : Bool := !(decide (x.client < 0) || decide (2 < x.client) || decide (x.number < 1) || !num x.number || decide (8192 < x.text.length))
def endR (m : Ms) : Bool :=
  if has m 105 && (decide (2 < m.client) || decide (m.number < 1)) then false
  else if has m 120 && decide (m.nonce < 1) then false
  else if has m 99 && decide (m.op < m.commit) then false
  else if has m 101 then decide (m.entries.length = 1) && decide (0 < m.op)
  else if has m 84 = false then decide (m.entries.length = 0)
  else decide (m.last ≤ m.view) && decide (m.base ≤ m.commit) && decide ((m.entries.length : Int) = m.op - m.base) && (decide (0 < m.base) || decide (m.state = []))
def goodR (m : Ms) (r : Int) : Bool := amt r && kindG m && numsR m && knownR m r && m.known.all num && lensR m && m.entries.all entR && endR m

theorem entR_eq (x : Ent) : entR x = entG x := by
  rw [Bool.eq_iff_iff]
  simp only [entR, entG, num, Bool.not_eq_true', Bool.or_eq_false_iff, Bool.and_eq_true, decide_eq_true_eq, decide_eq_false_iff_not, Bool.not_eq_false']
  omega

theorem kinds {m : Ms} (h : kindG m = true) : m.kind = 1 ∨ m.kind = 2 ∨ m.kind = 3 ∨ m.kind = 4 ∨ m.kind = 5 ∨ m.kind = 6 ∨ m.kind = 7 ∨ m.kind = 8 ∨ m.kind = 9 ∨ m.kind = 10 ∨ m.kind = 11 ∨ m.kind = 12 := by
  simp only [kindG, Bool.and_eq_true, decide_eq_true_eq] at h
  omega
theorem len_nil {α : Type} (l : List α) : (0 < l.length) ↔ l ≠ [] := by cases l <;> simp

set_option maxRecDepth 100000 in
set_option maxHeartbeats 4000000 in
theorem goodR_eq (m : Ms) (r : Int) : goodR m r = good m r := by
  unfold goodR good shape
  cases hk : kindG m
  · simp
  cases ha : amt r
  · simp
  have hk' := kinds hk
  have he : m.entries.all entR = m.entries.all entG := by
    congr 1
    funext x
    exact entR_eq x
  rw [he]
  obtain ⟨kind, from_, born, known, view, last, op, commit, client, number, nonce, text, full, base, state, entries⟩ := m
  have hr : r = 3 ∨ r = 5 ∨ r = 7 := by simpa [amt, or_assoc] using ha
  clear hk ha he
  rw [Bool.eq_iff_iff]
  cases hE : entries.all entG
  · simp
  cases hK : known.all num
  · simp [nums, hK]
  dsimp only at hk'
  have hn : entries.length = 0 ↔ entries = [] := List.length_eq_zero_iff
  have hkn : known.length = 0 ↔ known = [] := List.length_eq_zero_iff
  rcases hk' with rfl | rfl | rfl | rfl | rfl | rfl | rfl | rfl | rfl | rfl | rfl | rfl
  all_goals (try (cases full))
  all_goals simp [numsR, headN, ours, has, lets, knownR, lensR, endR, headG, nums, lens, fits, tail, tailG, proj, hK, num]
  all_goals (first | (constructor <;> (intro h; simp_all <;> omega)) | omega | grind | skip)
  all_goals done
end Msg
end Go.Proofs.YtaejcejfpcjifaaDoor
