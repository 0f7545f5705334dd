/- A school's roll as plain data: deeds, what holds of every roll, its bytes. No program is in sight here. -/
import Derived.Test.YtofcmghhmklmiaaGreatSrt
namespace Go.Proofs.YtofcmghhmklmiaaGreat
namespace Roll

structure Mem where
  name : B
  role : Int
  quota : Int
structure Cls where
  name : B
  teacher : B
  students : List B
structure Rl where
  mems : List Mem
  clss : List Cls
def nil : Rl := ⟨[], []⟩

def enrol (R : Rl) (n : B) (role : Int) : Rl × Int :=
  if Cmd.gn n = false then (nil, 8) else if role ≠ 1 ∧ role ≠ 2 then (nil, 7) else if has Mem.name R.mems n = true then (nil, 9) else if 256 ≤ R.mems.length then (nil, 12)
  else (⟨ins Mem.name R.mems n ⟨n, role, 4096⟩, R.clss⟩, 0)
def leave (R : Rl) (n : B) : Rl × Int :=
  if has Mem.name R.mems n = false then (nil, 10) else if has Cls.teacher R.clss n = true then (nil, 16)
  else (⟨R.mems.eraseIdx (place Mem.name R.mems n), R.clss.map fun c => ⟨c.name, c.teacher, c.students.filter fun s => !decide (s = n)⟩⟩, 0)
def grant (R : Rl) (n : B) (q : Int) : Rl × Int :=
  if has Mem.name R.mems n = false then (nil, 10) else if q < 0 ∨ 65536 < q then (nil, 1)
  else (⟨R.mems.map fun m => if m.name = n then ⟨m.name, m.role, q⟩ else m, R.clss⟩, 0)
def open_ (R : Rl) (c t : B) : Rl × Int :=
  if Cmd.gn c = false then (nil, 8) else if has Cls.name R.clss c = true then (nil, 9) else match find Mem.name R.mems t with
  | none => (nil, 10)
  | some m => if m.role ≠ 2 then (nil, 13) else if 32 ≤ R.clss.length then (nil, 12) else (⟨R.mems, ins Cls.name R.clss c ⟨c, t, []⟩⟩, 0)
def close (R : Rl) (c : B) : Rl × Int :=
  if has Cls.name R.clss c = false then (nil, 10) else (⟨R.mems, R.clss.eraseIdx (place Cls.name R.clss c)⟩, 0)
def join (R : Rl) (c s : B) : Rl × Int :=
  match find Cls.name R.clss c, find Mem.name R.mems s with
  | some x, some m => if m.role ≠ 1 then (nil, 13) else if has id x.students s = true then (nil, 9)
    else (⟨R.mems, R.clss.map fun y => if y.name = c then ⟨y.name, y.teacher, ins id y.students s s⟩ else y⟩, 0)
  | _, _ => (nil, 10)
def part (R : Rl) (c s : B) : Rl × Int :=
  match find Cls.name R.clss c with
  | none => (nil, 10)
  | some x => if has id x.students s = false then (nil, 10)
    else (⟨R.mems, R.clss.map fun y => if y.name = c then ⟨y.name, y.teacher, y.students.eraseIdx (place id y.students s)⟩ else y⟩, 0)

/-- What holds of every roll. -/
structure Inv (R : Rl) : Prop where
  ms : Srt Mem.name R.mems
  mg : ∀ m ∈ R.mems, Cmd.gn m.name = true ∧ (m.role = 1 ∨ m.role = 2) ∧ 0 ≤ m.quota ∧ m.quota ≤ 65536
  ml : R.mems.length ≤ 256
  cs : Srt Cls.name R.clss
  cl : R.clss.length ≤ 32
  cg : ∀ c ∈ R.clss, Cmd.gn c.name = true ∧ (∃ m ∈ R.mems, m.name = c.teacher ∧ m.role = 2) ∧ Srt id c.students ∧ ∀ s ∈ c.students, ∃ m ∈ R.mems, m.name = s ∧ m.role = 1
theorem inv_nil : Inv nil := ⟨List.Pairwise.nil, by simp [nil], by simp [nil], List.Pairwise.nil, by simp [nil], by simp [nil]⟩

theorem srt_sub : ∀ {l m : List B} (_ : Srt id l) (_ : Srt id m) (_ : ∀ x ∈ l, x ∈ m), l.length ≤ m.length
  | [], _, _, _, _ => by simp
  | a :: l, [], _, _, h => by have := h a (by simp); simp at this
  | a :: l, b :: m, hl, hm, h => by
    have ha := List.pairwise_cons.1 hl
    have hb := List.pairwise_cons.1 hm
    by_cases hab : a = b
    · have := srt_sub ha.2 hb.2 (fun x hx => by
        rcases List.mem_cons.1 (h x (List.mem_cons_of_mem _ hx)) with e | e
        · have := ha.1 x hx
          rw [e, hab] at this
          exact absurd this (ltn _)
        · exact e)
      simpa using this
    · have := srt_sub hl hb.2 (fun x hx => by
        rcases List.mem_cons.1 (h x hx) with e | e
        · exfalso
          have h1 : a ∈ m := by
            rcases List.mem_cons.1 (h a (by simp)) with e | e
            · exact absurd e hab
            · exact e
          have h2 := hb.1 a h1
          rw [e] at hx
          rcases List.mem_cons.1 hx with e' | e'
          · exact hab e'.symm
          · exact lta h2 (ha.1 b e')
        · exact e)
      simp only [List.length_cons] at this ⊢
      omega
theorem Inv.students {R : Rl} (h : Inv R) {c : Cls} (hc : c ∈ R.clss) : c.students.length ≤ 256 := by
  have h1 := h.cg c hc
  have hs : Srt id (R.mems.map Mem.name) := List.pairwise_map.2 h.ms
  have := srt_sub h1.2.2.1 hs (fun x hx => by
    obtain ⟨m, hm, e, -⟩ := h1.2.2.2 x hx
    exact List.mem_map.2 ⟨m, hm, e⟩)
  have hl := h.ml
  simp only [List.length_map] at this
  omega
theorem Inv.stname {R : Rl} (h : Inv R) {c : Cls} (hc : c ∈ R.clss) {s : B} (hs : s ∈ c.students) : Cmd.gn s = true := by
  obtain ⟨m, hm, e, -⟩ := (h.cg c hc).2.2.2 s hs
  rw [← e]
  exact (h.mg m hm).1

/-- The members are one more: the classes may stay. -/
theorem cg_more {R : Rl} (h : Inv R) {ms : List Mem} (hm : ∀ m ∈ R.mems, m ∈ ms) : ∀ c ∈ R.clss, Cmd.gn c.name = true ∧ (∃ m ∈ ms, m.name = c.teacher ∧ m.role = 2) ∧ Srt id c.students ∧ ∀ s ∈ c.students, ∃ m ∈ ms, m.name = s ∧ m.role = 1 := fun c hc => by
  obtain ⟨h1, ⟨m, h2, h3⟩, h4, h5⟩ := h.cg c hc
  refine ⟨h1, ⟨m, hm m h2, h3⟩, h4, fun s hs => ?_⟩
  obtain ⟨m, k1, k2⟩ := h5 s hs
  exact ⟨m, hm m k1, k2⟩
theorem inv_enrol {R : Rl} (h : Inv R) (n : B) (role : Int) : Inv (enrol R n role).1 := by
  unfold enrol
  split
  · exact inv_nil
  rename_i hg
  split
  · exact inv_nil
  rename_i hr
  split
  · exact inv_nil
  rename_i hh
  split
  · exact inv_nil
  rename_i hl
  have hh' : has Mem.name R.mems n = false := by simpa using hh
  refine ⟨srt_ins (n := n) rfl h.ms hh', fun m hm => ?_, ?_, h.cs, h.cl, cg_more h fun m hm => mem_ins.2 (.inr hm)⟩
  · rcases mem_ins.1 hm with rfl | hm
    · exact ⟨by simpa using hg, by dsimp only; omega, by simp, by simp⟩
    · exact h.mg m hm
  · rw [ins_length]
    omega
theorem inv_leave {R : Rl} (h : Inv R) (n : B) : Inv (leave R n).1 := by
  unfold leave
  split
  · exact inv_nil
  rename_i hh
  split
  · exact inv_nil
  rename_i ht
  have hh' : has Mem.name R.mems n = true := by simpa using hh
  have ht' : ∀ c ∈ R.clss, c.teacher ≠ n := has_not.1 (by simpa using ht)
  refine ⟨srt_erase _ h.ms, fun m hm => h.mg m (List.mem_of_mem_eraseIdx hm), ?_, ?_, by simpa using h.cl, fun c hc => ?_⟩
  · have := h.ml
    have := List.length_eraseIdx_le R.mems (place Mem.name R.mems n)
    dsimp only
    omega
  · exact List.pairwise_map.2 h.cs
  · obtain ⟨c, hc', rfl⟩ := List.mem_map.1 hc
    obtain ⟨h1, ⟨m, h2, h3, h3'⟩, h4, h5⟩ := h.cg c hc'
    dsimp only
    rw [erase_eq h.ms hh']
    refine ⟨h1, ⟨m, List.mem_filter.2 ⟨h2, ?_⟩, h3, h3'⟩, srt_filter _ h4, fun s hs => ?_⟩
    · have := ht' c hc'
      rw [← h3] at this
      simp [this]
    · obtain ⟨hs, hne⟩ := List.mem_filter.1 hs
      obtain ⟨m, k1, k2, k3⟩ := h5 s hs
      refine ⟨m, List.mem_filter.2 ⟨k1, ?_⟩, k2, k3⟩
      rw [k2]
      exact hne
theorem inv_grant {R : Rl} (h : Inv R) (n : B) (q : Int) : Inv (grant R n q).1 := by
  unfold grant
  split
  · exact inv_nil
  split
  · exact inv_nil
  rename_i hq
  have key : ∀ m ∈ R.mems, ∃ m' ∈ R.mems.map (fun m => if m.name = n then (⟨m.name, m.role, q⟩ : Mem) else m), m'.name = m.name ∧ m'.role = m.role := fun m hm => by
    refine ⟨_, List.mem_map.2 ⟨m, hm, rfl⟩, ?_⟩
    split <;> simp
  refine ⟨srt_map _ (fun m => by split <;> simp) h.ms, fun m hm => ?_, by simpa using h.ml, h.cs, h.cl, fun c hc => ?_⟩
  · obtain ⟨m, hm', rfl⟩ := List.mem_map.1 hm
    have := h.mg m hm'
    split
    · exact ⟨this.1, this.2.1, by dsimp only; omega, by dsimp only; omega⟩
    · exact this
  · obtain ⟨h1, ⟨m, h2, h3, h3'⟩, h4, h5⟩ := h.cg c hc
    refine ⟨h1, ?_, h4, fun s hs => ?_⟩
    · obtain ⟨m', k, k1, k2⟩ := key m h2
      exact ⟨m', k, k1.trans h3, k2.trans h3'⟩
    · obtain ⟨m, k1, k2, k3⟩ := h5 s hs
      obtain ⟨m', q, q1, q2⟩ := key m k1
      exact ⟨m', q, q1.trans k2, q2.trans k3⟩
theorem inv_open {R : Rl} (h : Inv R) (c t : B) : Inv (open_ R c t).1 := by
  unfold open_
  split
  · exact inv_nil
  rename_i hg
  split
  · exact inv_nil
  rename_i hh
  split
  · exact inv_nil
  rename_i m hm
  split
  · exact inv_nil
  rename_i hr
  split
  · exact inv_nil
  rename_i hl
  have hh' : has Cls.name R.clss c = false := by simpa using hh
  refine ⟨h.ms, h.mg, h.ml, srt_ins (n := c) rfl h.cs hh', by dsimp only; rw [ins_length]; omega, fun x hx => ?_⟩
  rcases mem_ins.1 hx with rfl | hx
  · exact ⟨by simpa using hg, ⟨m, (find_some hm).1, (find_some hm).2, by simpa using hr⟩, List.Pairwise.nil, by simp⟩
  · exact h.cg x hx
theorem inv_close {R : Rl} (h : Inv R) (c : B) : Inv (close R c).1 := by
  unfold close
  split
  · exact inv_nil
  refine ⟨h.ms, h.mg, h.ml, srt_erase _ h.cs, ?_, fun x hx => h.cg x (List.mem_of_mem_eraseIdx hx)⟩
  have := h.cl
  have := List.length_eraseIdx_le R.clss (place Cls.name R.clss c)
  dsimp only
  omega
theorem inv_cls {R : Rl} (h : Inv R) (c : B) (f : List B → List B) (hf : ∀ x ∈ R.clss, x.name = c → Srt id (f x.students) ∧ ∀ s ∈ f x.students, ∃ m ∈ R.mems, m.name = s ∧ m.role = 1) :
    Inv ⟨R.mems, R.clss.map fun y => if y.name = c then ⟨y.name, y.teacher, f y.students⟩ else y⟩ := by
  refine ⟨h.ms, h.mg, h.ml, srt_map _ (fun m => by split <;> simp) h.cs, by simpa using h.cl, fun x hx => ?_⟩
  obtain ⟨y, hy, rfl⟩ := List.mem_map.1 hx
  obtain ⟨h1, h2, h3, h4⟩ := h.cg y hy
  split
  · rename_i e
    exact ⟨h1, h2, (hf y hy e).1, (hf y hy e).2⟩
  · exact ⟨h1, h2, h3, h4⟩
theorem inv_join {R : Rl} (h : Inv R) (c s : B) : Inv (join R c s).1 := by
  unfold join
  split
  · rename_i x m hx hm
    split
    · exact inv_nil
    rename_i hr
    split
    · exact inv_nil
    rename_i hh
    refine inv_cls h c (fun l => ins id l s s) fun y hy e => ?_
    have hxy : y = x := srt_uniq h.cs hy (find_some hx).1 (e.trans (find_some hx).2.symm)
    subst hxy
    obtain ⟨h1, h2, h3, h4⟩ := h.cg y hy
    refine ⟨srt_ins rfl h3 (by simpa using hh), fun z hz => ?_⟩
    rcases mem_ins.1 hz with rfl | hz
    · exact ⟨m, (find_some hm).1, (find_some hm).2, by simpa using hr⟩
    · exact h4 z hz
  · exact inv_nil
theorem inv_part {R : Rl} (h : Inv R) (c s : B) : Inv (part R c s).1 := by
  unfold part
  split
  · exact inv_nil
  split
  · exact inv_nil
  refine inv_cls h c (fun l => l.eraseIdx (place id l s)) fun y hy _ => ?_
  obtain ⟨h1, h2, h3, h4⟩ := h.cg y hy
  exact ⟨srt_erase _ h3, fun z hz => h4 z (List.mem_of_mem_eraseIdx hz)⟩

/-! Bytes -/
def memB (m : Mem) : List UInt8 := Oct.text m.name ++ Oct.enc m.role ++ Oct.enc m.quota
def clsB (c : Cls) : List UInt8 := Oct.text c.name ++ Oct.text c.teacher ++ (Oct.enc c.students.length ++ Oct.texts c.students)
def put (R : Rl) : List UInt8 := Oct.enc R.mems.length ++ R.mems.flatMap memB ++ (Oct.enc R.clss.length ++ R.clss.flatMap clsB)
end Roll
end Go.Proofs.YtofcmghhmklmiaaGreat
