/- The reference's deeds in plain words, and that they are the roll's. No program is in sight here. More of the reference's deeds in plain words: where a name stands first, a list under way, a field changed. No program is in sight here. -/
import Derived.Test.YtofcmghhmklmiaaGreatRollLaw
namespace Go.Proofs.YtofcmghhmklmiaaGreat
namespace Roll
/-- A roll without a name; with the empty name: all of it. -/
def cpy (R : Rl) (n : B) : Rl := ⟨R.mems.filter fun m => decide (n = []) || !decide (m.name = n), R.clss.map fun c => ⟨c.name, c.teacher, c.students.filter fun s => decide (n = []) || !decide (s = n)⟩⟩
theorem cpy_nil (R : Rl) : cpy R [] = R := by
  obtain ⟨ms, cs⟩ := R
  have h : ∀ l : List B, (l.filter fun _ => true) = l := fun l => List.filter_eq_self.2 (fun _ _ => rfl)
  have h2 : (cs.map fun c => (⟨c.name, c.teacher, c.students.filter fun _ => true⟩ : Cls)) = cs := by
    simp only [h]
    exact List.map_id _
  simp [cpy]
  exact h2
theorem cpy_leave {R : Rl} (h : Inv R) {n : B} (hn : n ≠ []) (h1 : has Mem.name R.mems n = true) (h2 : has Cls.teacher R.clss n = false) : leave R n = (cpy R n, 0) := by
  unfold leave cpy
  rw [if_neg (by rw [h1]; decide), if_neg (by rw [h2]; decide), erase_eq h.ms h1]
  simp [hn]
section
variable {α : Type} {key : α → B}
/-- Put in before the first greater one. -/
def insL (key : α → B) (n : B) (x : α) : List α → List α
  | [] => [x]
  | a :: l => if n < key a then x :: a :: l else a :: insL key n x l
theorem insL_eq {n : B} {x : α} : ∀ {l : List α} (_ : Srt key l) (_ : has key l n = false), insL key n x l = ins key l n x
  | [], _, _ => by simp [insL, ins, place]
  | a :: l, hs, hh => by
    have hne : key a ≠ n := has_not.1 hh a (by simp)
    have hh2 : has key l n = false := has_not.2 (fun y hy => has_not.1 hh y (by simp [hy]))
    rcases ltri (key a) n with h | h | h
    · rw [ins_cons_lt h, ← insL_eq (List.pairwise_cons.1 hs).2 hh2]
      exact if_neg (lta h)
    · exact absurd h hne
    · rw [ins_cons_ge hs (lta h)]
      exact if_pos h
end
end Roll
end Go.Proofs.YtofcmghhmklmiaaGreat

namespace Go.Proofs.YtofcmghhmklmiaaGreat
namespace Roll
section
variable {α : Type} {key : α → B}
theorem place_first {l : List α} {n : B} {k : Nat} (hs : Srt key l) (hk : k < l.length) (he : key l[k] = n) : place key l n = k := by
  have h1 : ¬ k < place key l n := fun h => by
    have := (lt_place hs k hk).1 h
    rw [he] at this
    exact ltn _ this
  rcases Nat.lt_or_ge (place key l n) k with h | h
  · exfalso
    have h2 : place key l n < l.length := by omega
    have h3 := List.pairwise_iff_getElem.1 hs _ _ h2 hk h
    rw [he] at h3
    have := (lt_place hs _ h2).2 h3
    omega
  · omega
theorem has_take {l : List α} {n : B} {k : Nat} (hk : k < l.length) (h : has key (l.take k) n = false) (he : ¬ key l[k] = n) : has key (l.take (k + 1)) n = false := by
  rw [List.take_succ_eq_append_getElem hk]
  simp only [has, List.any_append, List.any_cons, List.any_nil, Bool.or_false]
  simp only [has] at h
  rw [h]
  simpa using he
theorem has_of {l : List α} {n : B} {k : Nat} (hk : k < l.length) (he : key l[k] = n) : has key l n = true := has_iff.2 ⟨l[k], List.getElem_mem hk, he⟩
theorem insL_length (n : B) (x : α) : ∀ l : List α, (insL key n x l).length = l.length + 1
  | [] => rfl
  | a :: l => by
    unfold insL
    split
    · rfl
    · rw [List.length_cons, insL_length n x l, List.length_cons]
/-- A list under way: what is behind it, with x already put in (d) or not. -/
def IsL (key : α → B) (n : B) (x : α) (l : List α) (k : Nat) (d : Bool) (acc : List α) : Prop := acc ++ (if d = true then l.drop k else insL key n x (l.drop k)) = insL key n x l
theorem IsL.start (n : B) (x : α) (l : List α) : IsL key n x l 0 false [] := rfl
theorem IsL.len {n : B} {x : α} {l : List α} {k : Nat} {d : Bool} {acc : List α} (h : IsL key n x l k d acc) : acc.length ≤ l.length + 1 := by
  have := congrArg List.length h
  rw [insL_length, List.length_append] at this
  omega
theorem IsL.yes {n : B} {x : α} {l : List α} {k : Nat} {acc : List α} (h : IsL key n x l k true acc) (hk : k < l.length) : IsL key n x l (k + 1) true (acc ++ [l[k]]) := by
  unfold IsL at *
  rw [if_pos rfl] at *
  rw [List.drop_eq_getElem_cons hk] at h
  rw [List.append_assoc]
  exact h
theorem IsL.now {n : B} {x : α} {l : List α} {k : Nat} {acc : List α} (h : IsL key n x l k false acc) (hk : k < l.length) (hg : n < key l[k]) : IsL key n x l (k + 1) true (acc ++ [x] ++ [l[k]]) := by
  unfold IsL at *
  rw [if_neg (by decide)] at h
  rw [if_pos rfl]
  rw [List.drop_eq_getElem_cons hk] at h
  rw [show insL key n x (l[k] :: l.drop (k + 1)) = x :: l[k] :: l.drop (k + 1) from if_pos hg] at h
  rw [List.append_assoc, List.append_assoc]
  exact h
theorem IsL.not {n : B} {x : α} {l : List α} {k : Nat} {acc : List α} (h : IsL key n x l k false acc) (hk : k < l.length) (hg : ¬ n < key l[k]) : IsL key n x l (k + 1) false (acc ++ [l[k]]) := by
  unfold IsL at *
  rw [if_neg (by decide)] at *
  rw [List.drop_eq_getElem_cons hk] at h
  rw [show insL key n x (l[k] :: l.drop (k + 1)) = l[k] :: insL key n x (l.drop (k + 1)) from if_neg hg] at h
  rw [List.append_assoc]
  exact h
theorem IsL.endY {n : B} {x : α} {l : List α} {acc : List α} (h : IsL key n x l l.length true acc) : acc = insL key n x l := by
  unfold IsL at h
  rw [if_pos rfl, List.drop_length, List.append_nil] at h
  exact h
theorem IsL.endN {n : B} {x : α} {l : List α} {acc : List α} (h : IsL key n x l l.length false acc) : acc ++ [x] = insL key n x l := by
  unfold IsL at h
  rw [if_neg (by decide), List.drop_length] at h
  exact h
/-- A place found by counting up. -/
theorem place_up {l : List α} {n : B} {k : Nat} (hs : Srt key l) (hk : k < l.length) (_hp : k ≤ place key l n) (h : key l[k] < n) : k + 1 ≤ place key l n := (lt_place hs k hk).2 h
theorem place_here {l : List α} {n : B} {k : Nat} (hs : Srt key l) (hk : k < l.length) (hp : k ≤ place key l n) (h : ¬ key l[k] < n) : place key l n = k := by
  have := mt (lt_place hs k hk).1 h
  omega
theorem place_end {l : List α} {n : B} (hp : l.length ≤ place key l n) : place key l n = l.length := by
  have := @place_le α key l n
  omega
theorem erase_td (l : List α) (k : Nat) : l.eraseIdx k = l.take k ++ l.drop (k + 1) := List.eraseIdx_eq_take_drop_succ l k
theorem filter_take (p : α → Bool) {l : List α} {k : Nat} (hk : k < l.length) : (l.take (k + 1)).filter p = (l.take k).filter p ++ (if p l[k] = true then [l[k]] else []) := by
  rw [List.take_succ_eq_append_getElem hk, List.filter_append]
  congr 1
  simp only [List.filter_cons, List.filter_nil]
/-- A list whose first k are changed. -/
theorem map_set (f : α → α) {l : List α} {k : Nat} (hk : k < l.length) : ((l.take k).map f ++ l.drop k).set k (f l[k]) = (l.take (k + 1)).map f ++ l.drop (k + 1) := by
  have hl : ((l.take k).map f).length = k := by rw [List.length_map, List.length_take]; omega
  rw [List.set_append_right _ _ (by omega), hl, Nat.sub_self, List.drop_eq_getElem_cons hk, List.set_cons_zero, List.take_succ_eq_append_getElem hk, List.map_append]
  simp
theorem map_same (f : α → α) {l : List α} {k : Nat} (hk : k < l.length) (h : f l[k] = l[k]) : (l.take k).map f ++ l.drop k = (l.take (k + 1)).map f ++ l.drop (k + 1) := by
  rw [← map_set f hk, h]
  have hl : ((l.take k).map f).length = k := by rw [List.length_map, List.length_take]; omega
  rw [List.set_append_right _ _ (by omega), hl, Nat.sub_self]
  congr 1
  rw [List.drop_eq_getElem_cons hk, List.set_cons_zero]
theorem map_at (f : α → α) {l : List α} {k : Nat} (hk : k < l.length) (h : k < ((l.take k).map f ++ l.drop k).length) : ((l.take k).map f ++ l.drop k)[k] = l[k] := by
  have hl : ((l.take k).map f).length = k := by rw [List.length_map, List.length_take]; omega
  rw [List.getElem_append_right (by omega)]
  simp only [hl, Nat.sub_self, List.getElem_drop, Nat.add_zero]
end
/-- Where a class stands, or -1. -/
def ofB (R : Rl) (n : B) : Int := if has Cls.name R.clss n = true then (place Cls.name R.clss n : Int) else -1
theorem ofB_yes {R : Rl} {n : B} (h : has Cls.name R.clss n = true) : ofB R n = (place Cls.name R.clss n : Int) := if_pos h
theorem ofB_no {R : Rl} {n : B} (h : has Cls.name R.clss n = false) : ofB R n = -1 := if_neg (by rw [h]; decide)
theorem gn_ne {n : B} (h : Cmd.gn n = true) : n ≠ [] := fun e => by
  have := (Cmd.gn_len h).1
  rw [e] at this
  simp at this
/-! The deeds, case by case. -/
theorem enrol_ok {R : Rl} {n : B} {role : Int} (h : Inv R) (h1 : Cmd.gn n = true) (h2 : role = 1 ∨ role = 2) (h3 : has Mem.name R.mems n = false) (h4 : R.mems.length < 256) : enrol R n role = (⟨insL Mem.name n ⟨n, role, 4096⟩ R.mems, R.clss⟩, 0) := by
  unfold enrol
  rw [if_neg (by rw [h1]; decide), if_neg (by omega), if_neg (by rw [h3]; decide), if_neg (by omega), insL_eq h.ms h3]
theorem open_ok {R : Rl} {c t : B} {m : Mem} (h1 : Cmd.gn c = true) (h2 : has Cls.name R.clss c = false) (h3 : find Mem.name R.mems t = some m) (h4 : m.role = 2) (h5 : R.clss.length < 32) : open_ R c t = (⟨R.mems, R.clss.take (place Cls.name R.clss c) ++ [⟨c, t, []⟩] ++ R.clss.drop (place Cls.name R.clss c)⟩, 0) := by
  unfold open_
  rw [if_neg (by rw [h1]; decide), if_neg (by rw [h2]; decide), h3]
  dsimp only
  rw [if_neg (by omega), if_neg (by omega)]
  simp [ins]
theorem join_ok {R : Rl} {c s : B} {m : Mem} (h : Inv R) (h1 : has Cls.name R.clss c = true) (hp : place Cls.name R.clss c < R.clss.length) (h2 : find Mem.name R.mems s = some m) (h3 : m.role = 1) (h4 : has id (R.clss[place Cls.name R.clss c]).students s = false) :
    join R c s = (⟨R.mems, R.clss.set (place Cls.name R.clss c) ⟨(R.clss[place Cls.name R.clss c]).name, (R.clss[place Cls.name R.clss c]).teacher, insL id s s (R.clss[place Cls.name R.clss c]).students⟩⟩, 0) := by
  obtain ⟨hl, hf⟩ := find_at h.cs h1
  obtain ⟨hl', hk⟩ := (has_at h.cs).1 h1
  have hsr := (h.cg _ (List.getElem_mem hp)).2.2.1
  unfold join
  rw [hf, h2]
  dsimp only
  rw [if_neg (by omega), if_neg (by rw [h4]; decide), insL_eq hsr h4]
  exact congrArg (fun l => ((⟨R.mems, l⟩ : Rl), (0 : Int))) (set_at h.cs (fun y : Cls => (⟨y.name, y.teacher, ins id y.students s s⟩ : Cls)) hl hk).symm
theorem part_ok {R : Rl} {c s : B} (h : Inv R) (h1 : has Cls.name R.clss c = true) (hp : place Cls.name R.clss c < R.clss.length) (h4 : has id (R.clss[place Cls.name R.clss c]).students s = true) :
    part R c s = (⟨R.mems, R.clss.set (place Cls.name R.clss c) ⟨(R.clss[place Cls.name R.clss c]).name, (R.clss[place Cls.name R.clss c]).teacher, (R.clss[place Cls.name R.clss c]).students.filter fun x => !decide (x = s)⟩⟩, 0) := by
  obtain ⟨hl, hf⟩ := find_at h.cs h1
  obtain ⟨hl', hk⟩ := (has_at h.cs).1 h1
  have hsr := (h.cg _ (List.getElem_mem hp)).2.2.1
  unfold part
  rw [hf]
  dsimp only
  rw [if_neg (by rw [h4]; decide)]
  have he := erase_eq hsr h4
  simp only [id] at he
  rw [← he]
  exact congrArg (fun l => ((⟨R.mems, l⟩ : Rl), (0 : Int))) (set_at h.cs (fun y : Cls => (⟨y.name, y.teacher, y.students.eraseIdx (place id y.students s)⟩ : Cls)) hl hk).symm
theorem close_ok {R : Rl} {c : B} (h1 : has Cls.name R.clss c = true) : close R c = (⟨R.mems, R.clss.take (place Cls.name R.clss c) ++ R.clss.drop (place Cls.name R.clss c + 1)⟩, 0) := by
  unfold close
  rw [if_neg (by rw [h1]; decide), erase_td]
theorem grant_ok {R : Rl} {n : B} {q : Int} (h1 : has Mem.name R.mems n = true) (h2 : 0 ≤ q ∧ q ≤ 65536) : grant R n q = (⟨R.mems.map fun m => if m.name = n then ⟨m.name, m.role, q⟩ else m, R.clss⟩, 0) := by
  unfold grant
  rw [if_neg (by rw [h1]; decide), if_neg (by omega)]
end Roll
end Go.Proofs.YtofcmghhmklmiaaGreat
