/- A roll read from bytes: what the bytes say, in plain words. -/
import Derived.Test.YtofcmghhmklmiaaGreatRollV
import Derived.Test.YtofcmghhmklmiaaGreatInAll
namespace Go.Proofs.YtofcmghhmklmiaaGreat
namespace Roll
def rMem (s : List UInt8) (e : Int) : Mem × List UInt8 × Int :=
  match Oct.rText s e with
  | (a, s1, e1) => match Oct.rInt s1 e1 with
    | (r, s2, e2) => match Oct.rInt s2 e2 with
      | (q, s3, e3) => (⟨a, r, q⟩, s3, e3)
theorem rMem_of {s s1 s2 s3 : List UInt8} {e e1 e2 e3 : Int} {a : B} {r q : Int} (h1 : Oct.rText s e = (a, s1, e1)) (h2 : Oct.rInt s1 e1 = (r, s2, e2)) (h3 : Oct.rInt s2 e2 = (q, s3, e3)) : rMem s e = (⟨a, r, q⟩, s3, e3) := by
  unfold rMem
  rw [h1]
  dsimp only
  rw [h2]
  dsimp only
  rw [h3]
def rMems : Nat → List UInt8 → Int → List Mem → List Mem × List UInt8 × Int
  | 0, s, e, acc => (acc, s, e)
  | n + 1, s, e, acc => if e = 0 then rMems n (rMem s e).2.1 (rMem s e).2.2 (acc ++ [(rMem s e).1]) else (acc, s, e)
theorem rMems_stop {n : Nat} {s : List UInt8} {e : Int} {acc : List Mem} (he : e ≠ 0) : rMems n s e acc = (acc, s, e) := by
  cases n
  · rfl
  · exact if_neg he
theorem rMems_step {n : Nat} {s s' : List UInt8} {e' : Int} {m : Mem} {acc : List Mem} (h : rMem s 0 = (m, s', e')) : rMems (n + 1) s 0 acc = rMems n s' e' (acc ++ [m]) := by
  show (if (0 : Int) = 0 then _ else _) = _
  rw [if_pos rfl, h]
def rCls (s : List UInt8) (e : Int) : Cls × List UInt8 × Int :=
  match Oct.rText s e with
  | (a, s1, e1) => match Oct.rText s1 e1 with
    | (t, s2, e2) => match Oct.rTexts 256 s2 e2 with
      | (l, s3, e3) => (⟨a, t, l⟩, s3, e3)
theorem rCls_of {s s1 s2 s3 : List UInt8} {e e1 e2 e3 : Int} {a t : B} {l : List B} (h1 : Oct.rText s e = (a, s1, e1)) (h2 : Oct.rText s1 e1 = (t, s2, e2)) (h3 : Oct.rTexts 256 s2 e2 = (l, s3, e3)) : rCls s e = (⟨a, t, l⟩, s3, e3) := by
  unfold rCls
  rw [h1]
  dsimp only
  rw [h2]
  dsimp only
  rw [h3]
def rClss : Nat → List UInt8 → Int → List Cls → List Cls × List UInt8 × Int
  | 0, s, e, acc => (acc, s, e)
  | n + 1, s, e, acc => if e = 0 then rClss n (rCls s e).2.1 (rCls s e).2.2 (acc ++ [(rCls s e).1]) else (acc, s, e)
theorem rClss_stop {n : Nat} {s : List UInt8} {e : Int} {acc : List Cls} (he : e ≠ 0) : rClss n s e acc = (acc, s, e) := by
  cases n
  · rfl
  · exact if_neg he
theorem rClss_step {n : Nat} {s s' : List UInt8} {e' : Int} {m : Cls} {acc : List Cls} (h : rCls s 0 = (m, s', e')) : rClss (n + 1) s 0 acc = rClss n s' e' (acc ++ [m]) := by
  show (if (0 : Int) = 0 then _ else _) = _
  rw [if_pos rfl, h]

/-! Right, decided -/
def mgood (m : Mem) : Bool := Cmd.gn m.name && (decide (m.role = 1) || decide (m.role = 2)) && decide (0 ≤ m.quota) && decide (m.quota ≤ 65536)
theorem mgood_iff (m : Mem) : mgood m = true ↔ MGood m := by simp [mgood, MGood, and_assoc]
def srtB {α : Type} (key : α → B) (l : List α) : Bool := decide (l.Pairwise fun a b => key a < key b)
theorem srtB_iff {α : Type} (key : α → B) (l : List α) : srtB key l = true ↔ Srt key l := by simp [srtB, Srt]
def roleB (R : Rl) (n : B) (r : Int) : Bool := (find Mem.name R.mems n).any fun m => decide (m.role = r)
theorem roleB_iff (R : Rl) (n : B) (r : Int) : roleB R n r = true ↔ ∃ m, find Mem.name R.mems n = some m ∧ m.role = r := by
  unfold roleB
  cases find Mem.name R.mems n <;> simp
def cgood (R : Rl) (c : Cls) : Bool := Cmd.gn c.name && roleB R c.teacher 2 && srtB id c.students && c.students.all fun s => roleB R s 1
theorem cgood_iff (R : Rl) (c : Cls) : cgood R c = true ↔ CGood R c := by
  constructor
  · intro h
    simp only [cgood, Bool.and_eq_true, List.all_eq_true, roleB_iff, srtB_iff] at h
    exact ⟨h.1.1.1, h.1.1.2, h.1.2, h.2⟩
  · intro h
    simp only [cgood, Bool.and_eq_true, List.all_eq_true, roleB_iff, srtB_iff]
    exact ⟨⟨⟨h.gn, h.te⟩, h.ss⟩, h.st⟩
def rightB (R : Rl) : Bool := R.mems.all mgood && srtB Mem.name R.mems && srtB Cls.name R.clss && R.clss.all (cgood R)
theorem rightB_iff (R : Rl) : rightB R = true ↔ Right R := by
  constructor
  · intro h
    simp only [rightB, Bool.and_eq_true, List.all_eq_true, mgood_iff, srtB_iff, cgood_iff] at h
    exact ⟨h.1.1.1, h.1.1.2, h.1.2, h.2⟩
  · intro h
    simp only [rightB, Bool.and_eq_true, List.all_eq_true, mgood_iff, srtB_iff, cgood_iff]
    exact ⟨⟨⟨h.mg, h.ms⟩, h.cs⟩, h.cg⟩

/-! Get -/
def fin (R : Rl) (s : List UInt8) (e : Int) : Rl × Int := if e ≠ 0 then (nil, e) else if rightB R = false then (nil, 2) else if s ≠ [] then (nil, 4) else (R, 0)
def getC (ms : List Mem) (s : List UInt8) (e : Int) : Rl × Int :=
  match Oct.rInt s e with
  | (n, s1, e1) => if 0 ≤ n ∧ n ≤ 32 then (match rClss n.toNat s1 e1 [] with | (cs, s2, e2) => fin ⟨ms, cs⟩ s2 e2) else if e1 ≠ 0 then (nil, e1) else (nil, 2)
def getR (s : List UInt8) : Rl × Int :=
  match Oct.rInt s 0 with
  | (n, s1, e1) => if 0 ≤ n ∧ n ≤ 256 then (match rMems n.toNat s1 e1 [] with | (ms, s2, e2) => getC ms s2 e2) else if e1 ≠ 0 then (nil, e1) else (nil, 2)
theorem getC_in {ms : List Mem} {s s1 s2 : List UInt8} {e e1 e2 : Int} {n : Nat} {cs : List Cls} (h1 : Oct.rInt s e = ((n : Int), s1, e1)) (hn : n ≤ 32) (h2 : rClss n s1 e1 [] = (cs, s2, e2)) : getC ms s e = fin ⟨ms, cs⟩ s2 e2 := by
  unfold getC
  rw [h1]
  dsimp only
  rw [if_pos ⟨by omega, by omega⟩, Int.toNat_natCast, h2]
theorem getC_out {ms : List Mem} {s s1 : List UInt8} {e e1 n : Int} (h1 : Oct.rInt s e = (n, s1, e1)) (hn : ¬ (0 ≤ n ∧ n ≤ 32)) : getC ms s e = if e1 ≠ 0 then (nil, e1) else (nil, 2) := by
  unfold getC
  rw [h1]
  dsimp only
  rw [if_neg hn]
theorem getR_in {s s1 s2 : List UInt8} {e1 e2 : Int} {n : Nat} {ms : List Mem} (h1 : Oct.rInt s 0 = ((n : Int), s1, e1)) (hn : n ≤ 256) (h2 : rMems n s1 e1 [] = (ms, s2, e2)) : getR s = getC ms s2 e2 := by
  unfold getR
  rw [h1]
  dsimp only
  rw [if_pos ⟨by omega, by omega⟩, Int.toNat_natCast, h2]
theorem getR_out {s s1 : List UInt8} {e1 n : Int} (h1 : Oct.rInt s 0 = (n, s1, e1)) (hn : ¬ (0 ≤ n ∧ n ≤ 256)) : getR s = if e1 ≠ 0 then (nil, e1) else (nil, 2) := by
  unfold getR
  rw [h1]
  dsimp only
  rw [if_neg hn]

/-! What is read of the bytes put -/
theorem enc_role {r : Int} (h : r = 1 ∨ r = 2) : (Oct.enc r).isEmpty = false := Cmd.enc_small (by omega) (by omega)
theorem rMem_memB {m : Mem} (h : MGood m) (r : List UInt8) : rMem (memB m ++ r) 0 = (m, r, 0) := by
  obtain ⟨h1, h2, h3, h4⟩ := h
  have hl := (Cmd.gn_len h1).2
  unfold memB
  rw [List.append_assoc, List.append_assoc]
  exact rMem_of (rText_text (by omega) _) (rInt_enc (enc_role h2) _) (rInt_enc (Cmd.enc_small h3 (by omega)) _)
theorem rMems_put : ∀ (ms : List Mem) (acc : List Mem) (r : List UInt8), (∀ m ∈ ms, MGood m) → rMems ms.length (ms.flatMap memB ++ r) 0 acc = (acc ++ ms, r, 0)
  | [], acc, r, _ => by simp [rMems]
  | m :: ms, acc, r, h => by
    rw [List.length_cons, List.flatMap_cons, List.append_assoc, rMems_step (rMem_memB (h m (by simp)) _), rMems_put ms _ r (fun x hx => h x (by simp [hx]))]
    simp
theorem rCls_clsB {c : Cls} (h1 : c.name.length ≤ 65536) (h2 : c.teacher.length ≤ 65536) (h3 : c.students.length ≤ 256) (h4 : Oct.badTexts c.students = false) (r : List UInt8) : rCls (clsB c ++ r) 0 = (c, r, 0) := by
  unfold clsB
  rw [List.append_assoc, List.append_assoc]
  exact rCls_of (rText_text h1 _) (rText_text h2 _) (rTexts_list (by omega) (by omega) h4 _)
theorem rClss_put : ∀ (cs : List Cls) (acc : List Cls) (r : List UInt8), (∀ c ∈ cs, c.name.length ≤ 65536 ∧ c.teacher.length ≤ 65536 ∧ c.students.length ≤ 256 ∧ Oct.badTexts c.students = false) → rClss cs.length (cs.flatMap clsB ++ r) 0 acc = (acc ++ cs, r, 0)
  | [], acc, r, _ => by simp [rClss]
  | c :: cs, acc, r, h => by
    obtain ⟨h1, h2, h3, h4⟩ := h c (by simp)
    rw [List.length_cons, List.flatMap_cons, List.append_assoc, rClss_step (rCls_clsB h1 h2 h3 h4 _), rClss_put cs _ r (fun x hx => h x (by simp [hx]))]
    simp
/-- A roll's bytes are read again. -/
theorem get_put {R : Rl} (h : Inv R) : getR (put R) = (R, 0) := by
  have hml := h.ml
  have hcl := h.cl
  have hnm : ∀ m ∈ R.mems, m.name.length ≤ 32 := fun m hm => (Cmd.gn_len (h.mg m hm).1).2
  have hc : ∀ c ∈ R.clss, c.name.length ≤ 65536 ∧ c.teacher.length ≤ 65536 ∧ c.students.length ≤ 256 ∧ Oct.badTexts c.students = false := fun c hc => by
    have h1 := (Cmd.gn_len (h.cg c hc).1).2
    obtain ⟨m, hm, he, -⟩ := (h.cg c hc).2.1
    have h2 := hnm m hm
    rw [he] at h2
    refine ⟨by omega, by omega, h.students hc, ?_⟩
    unfold Oct.badTexts
    rw [List.any_eq_false]
    intro s hs
    have := (Cmd.gn_len (h.stname hc hs)).2
    simp
    omega
  have e1 : Oct.rInt (put R) 0 = ((R.mems.length : Int), R.mems.flatMap memB ++ (Oct.enc R.clss.length ++ R.clss.flatMap clsB), 0) := by
    unfold put
    rw [List.append_assoc]
    exact rInt_enc (Cmd.enc_small (by omega) (by omega)) _
  have e2 := rMems_put R.mems [] (Oct.enc R.clss.length ++ R.clss.flatMap clsB) h.mg
  have e3 : Oct.rInt (Oct.enc (R.clss.length : Int) ++ R.clss.flatMap clsB) 0 = ((R.clss.length : Int), R.clss.flatMap clsB, 0) := rInt_enc (Cmd.enc_small (by omega) (by omega)) _
  have e4 := rClss_put R.clss [] [] hc
  rw [List.append_nil, List.nil_append] at e4
  rw [List.nil_append] at e2
  rw [getR_in e1 hml e2, getC_in e3 hcl e4]
  unfold fin
  rw [if_neg (by simp), if_neg (by rw [(rightB_iff R).2 (Right.of h)]; decide), if_neg (by simp)]
end Roll
end Go.Proofs.YtofcmghhmklmiaaGreat
