/- Members enrolled, classes opened, students joined, in any order: the same roll. No program is in sight here. A student is no teacher (speaks). A turn's blocks. -/
import Derived.Test.YtofcmghhmklmiaaGreatRollLaw
import Derived.Test.YtofcmghhmklmiaaGreatRollH
import Derived.Test.YtofcmghhmklmiaaGreatRollP
namespace Go.Proofs.YtofcmghhmklmiaaGreat
namespace Roll

def nx (k : Nat) : B := [UInt8.ofNat (97 + k)]
def nc (k : Nat) : B := [99, UInt8.ofNat (48 + k)]
def tt : B := [116]
def names10 : List B := [[97], [98], [99], [100], [101], [102], [103], [104], [105], [116]]
def names4 : List B := [[99, 48], [99, 49], [99, 50], [99, 51]]
theorem srt10 : Srt id names10 := by unfold Srt names10; decide
theorem srt4 : Srt id names4 := by unfold Srt names4; decide
def IsX (x : B) : Prop := ∃ k, k < 9 ∧ x = nx k
def IsC (c : B) : Prop := ∃ k, k < 4 ∧ c = nc k
theorem isx (x : B) (h : IsX x) : x ∈ names10 ∧ x ≠ tt ∧ Cmd.gn x = true := by
  obtain ⟨k, hk, rfl⟩ := h
  have : k = 0 ∨ k = 1 ∨ k = 2 ∨ k = 3 ∨ k = 4 ∨ k = 5 ∨ k = 6 ∨ k = 7 ∨ k = 8 := by omega
  rcases this with rfl | rfl | rfl | rfl | rfl | rfl | rfl | rfl | rfl <;> decide
theorem isc (c : B) (h : IsC c) : c ∈ names4 ∧ Cmd.gn c = true := by
  obtain ⟨k, hk, rfl⟩ := h
  have : k = 0 ∨ k = 1 ∨ k = 2 ∨ k = 3 := by omega
  rcases this with rfl | rfl | rfl | rfl <;> decide
/-- A roll by its members, its classes, who is in which. -/
structure St (R : Rl) (X C : B → Prop) (J : B → B → Prop) : Prop where
  inv : Inv R
  ms : ∀ m, m ∈ R.mems ↔ m = ⟨tt, 2, 4096⟩ ∨ ∃ x, X x ∧ m = ⟨x, 1, 4096⟩
  xs : ∀ x, X x → IsX x
  cs : ∀ c, C c → IsC c
  ct : ∀ c ∈ R.clss, c.teacher = tt ∧ ∀ s, s ∈ c.students ↔ J c.name s
  cn : ∀ n, has Cls.name R.clss n = true ↔ C n
variable {R : Rl} {X C : B → Prop} {J : B → B → Prop}
theorem St.few (h : St R X C J) : R.mems.length ≤ 10 := by
  have hs : Srt id (R.mems.map Mem.name) := List.pairwise_map.2 h.inv.ms
  have := srt_sub hs srt10 (fun n hn => by
    obtain ⟨m, hm, rfl⟩ := List.mem_map.1 hn
    rcases (h.ms m).1 hm with rfl | ⟨x, hx, rfl⟩
    · decide
    · exact (isx x (h.xs x hx)).1)
  simpa [names10] using this
theorem St.few4 (h : St R X C J) : R.clss.length ≤ 4 := by
  have hs : Srt id (R.clss.map Cls.name) := List.pairwise_map.2 h.inv.cs
  have := srt_sub hs srt4 (fun n hn => by
    obtain ⟨c, hc, rfl⟩ := List.mem_map.1 hn
    exact (isc _ (h.cs _ ((h.cn _).1 (has_iff.2 ⟨c, hc, rfl⟩)))).1)
  simpa [names4] using this
theorem St.has_x (h : St R X C J) {x : B} (hx : IsX x) : has Mem.name R.mems x = true ↔ X x := by
  rw [has_iff]
  constructor
  · rintro ⟨m, hm, rfl⟩
    rcases (h.ms m).1 hm with rfl | ⟨y, hy, rfl⟩
    · exact absurd rfl (isx _ hx).2.1
    · exact hy
  · intro hX
    exact ⟨_, (h.ms ⟨x, 1, 4096⟩).2 (.inr ⟨x, hX, rfl⟩), rfl⟩
def doT (p : Nat) (R : Rl) (a : B × B) : Rl × Int := if p = 0 then enrol R a.1 1 else if p = 1 then open_ R a.2 tt else join R a.2 a.1
def nextT (p : Nat) (R : Rl) (a : B × B) : Rl := if (doT p R a).2 = 0 then (doT p R a).1 else R
def rollT (p : Nat) (R : Rl) (l : List (B × B)) : Rl := l.foldl (nextT p) R
theorem rollT_snoc (p : Nat) (R : Rl) (l : List (B × B)) (k : Nat) (h : k < l.length) : rollT p R (l.take (k + 1)) = nextT p (rollT p R (l.take k)) l[k] := by
  unfold rollT
  rw [List.take_succ_eq_append_getElem h, List.foldl_append]
  rfl
def Ok (r : Rl × Int) : Prop := r.2 = 0 ∨ r.2 = 9
theorem St.enrol (h : St R X C J) (x : B) (hx : IsX x) (y : B) : Ok (doT 0 R (x, y)) ∧ St (nextT 0 R (x, y)) (fun z => X z ∨ z = x) C J := by
  have hg := (isx x hx).2.2
  have hl := h.few
  have e : doT 0 R (x, y) = Roll.enrol R x 1 := rfl
  unfold nextT
  rw [e]
  cases hh : has Mem.name R.mems x
  · have he : Roll.enrol R x 1 = (⟨ins Mem.name R.mems x ⟨x, 1, 4096⟩, R.clss⟩, 0) := by
      unfold Roll.enrol
      rw [hg, hh]
      simp
      omega
    have hI := inv_enrol h.inv x 1
    rw [he] at hI ⊢
    refine ⟨.inl rfl, ?_⟩
    rw [if_pos rfl]
    refine ⟨hI, fun m => ?_, fun z hz => ?_, h.cs, h.ct, h.cn⟩
    · dsimp only
      rw [mem_ins, h.ms]
      constructor
      · rintro (rfl | rfl | ⟨z, hz, rfl⟩)
        · exact .inr ⟨x, .inr rfl, rfl⟩
        · exact .inl rfl
        · exact .inr ⟨z, .inl hz, rfl⟩
      · rintro (rfl | ⟨z, hz | rfl, rfl⟩)
        · exact .inr (.inl rfl)
        · exact .inr (.inr ⟨z, hz, rfl⟩)
        · exact .inl rfl
    · rcases hz with hz | rfl
      · exact h.xs z hz
      · exact hx
  · have he : (Roll.enrol R x 1).2 = 9 := by
      unfold Roll.enrol
      rw [hg, hh]
      simp
    refine ⟨.inr he, ?_⟩
    rw [if_neg (by rw [he]; decide)]
    have hX := (h.has_x hx).1 hh
    refine ⟨h.inv, fun m => ?_, fun z hz => ?_, h.cs, h.ct, h.cn⟩
    · rw [h.ms]
      constructor
      · rintro (rfl | ⟨z, hz, rfl⟩)
        · exact .inl rfl
        · exact .inr ⟨z, .inl hz, rfl⟩
      · rintro (rfl | ⟨z, hz | rfl, rfl⟩)
        · exact .inl rfl
        · exact .inr ⟨z, hz, rfl⟩
        · exact .inr ⟨z, hX, rfl⟩
    · rcases hz with hz | rfl
      · exact h.xs z hz
      · exact hx
theorem St.find_t (h : St R X C J) : find Mem.name R.mems tt = some ⟨tt, 2, 4096⟩ := find_of h.inv.ms ((h.ms _).2 (.inl rfl)) rfl
theorem St.find_x (h : St R X C J) {x : B} (hx : X x) : find Mem.name R.mems x = some ⟨x, 1, 4096⟩ := find_of h.inv.ms ((h.ms _).2 (.inr ⟨x, hx, rfl⟩)) rfl
theorem St.open_ (h : St R X C fun _ _ => False) (c : B) (hc : IsC c) (x : B) : Ok (doT 1 R (x, c)) ∧ St (nextT 1 R (x, c)) X (fun z => C z ∨ z = c) fun _ _ => False := by
  have hg := (isc c hc).2
  have hl := h.few4
  have e : doT 1 R (x, c) = Roll.open_ R c tt := rfl
  unfold nextT
  rw [e]
  cases hh : has Cls.name R.clss c
  · have he : Roll.open_ R c tt = (⟨R.mems, ins Cls.name R.clss c ⟨c, tt, []⟩⟩, 0) := by
      unfold Roll.open_
      rw [hg, hh, h.find_t]
      simp
      omega
    have hI := inv_open h.inv c tt
    rw [he] at hI ⊢
    refine ⟨.inl rfl, ?_⟩
    rw [if_pos rfl]
    refine ⟨hI, h.ms, h.xs, fun z hz => ?_, fun d hd => ?_, fun n => ?_⟩
    · rcases hz with hz | rfl
      · exact h.cs z hz
      · exact hc
    · rcases mem_ins.1 hd with rfl | hd
      · exact ⟨rfl, fun s => by simp⟩
      · exact h.ct d hd
    · dsimp only
      rw [has_iff]
      constructor
      · rintro ⟨d, hd, rfl⟩
        rcases mem_ins.1 hd with rfl | hd
        · exact .inr rfl
        · exact .inl ((h.cn _).1 (has_iff.2 ⟨d, hd, rfl⟩))
      · rintro (hC | rfl)
        · obtain ⟨d, hd, e⟩ := has_iff.1 ((h.cn _).2 hC)
          exact ⟨d, mem_ins.2 (.inr hd), e⟩
        · exact ⟨_, mem_ins.2 (.inl rfl), rfl⟩
  · have he : (Roll.open_ R c tt).2 = 9 := by
      unfold Roll.open_
      rw [hg, hh]
      simp
    refine ⟨.inr he, ?_⟩
    rw [if_neg (by rw [he]; decide)]
    have hC := (h.cn c).1 hh
    refine ⟨h.inv, h.ms, h.xs, fun z hz => ?_, h.ct, fun n => ?_⟩
    · rcases hz with hz | rfl
      · exact h.cs z hz
      · exact hc
    · rw [h.cn]
      constructor
      · exact .inl
      · rintro (hz | rfl)
        · exact hz
        · exact hC
theorem St.join (h : St R X C J) (c x : B) (hc : C c) (hx : X x) : Ok (doT 2 R (x, c)) ∧ St (nextT 2 R (x, c)) X C fun n s => J n s ∨ (n = c ∧ s = x) := by
  have e : doT 2 R (x, c) = Roll.join R c x := rfl
  unfold nextT
  rw [e]
  have hh := (h.cn c).2 hc
  obtain ⟨hpl, hf⟩ := find_at h.inv.cs hh
  obtain ⟨y, hy⟩ : ∃ y, find Cls.name R.clss c = some y := ⟨_, hf⟩
  obtain ⟨hym, hyn⟩ := find_some hy
  have hI := inv_join h.inv c x
  cases hs : has id y.students x
  · have he : Roll.join R c x = (⟨R.mems, R.clss.map fun y => if y.name = c then ⟨y.name, y.teacher, ins id y.students x x⟩ else y⟩, 0) := by
      unfold Roll.join
      rw [hy, h.find_x hx]
      simp [hs]
    rw [he] at hI ⊢
    refine ⟨.inl rfl, ?_⟩
    rw [if_pos rfl]
    refine ⟨hI, h.ms, h.xs, h.cs, fun d hd => ?_, fun n => ?_⟩
    · obtain ⟨d, hd0, rfl⟩ := List.mem_map.1 hd
      have := h.ct d hd0
      by_cases hdc : d.name = c
      · rw [if_pos hdc]
        refine ⟨this.1, fun s => ?_⟩
        dsimp only
        rw [mem_ins, this.2]
        constructor
        · rintro (rfl | hj)
          · exact .inr ⟨hdc, rfl⟩
          · exact .inl hj
        · rintro (hj | ⟨-, rfl⟩)
          · exact .inr hj
          · exact .inl rfl
      · rw [if_neg hdc]
        refine ⟨this.1, fun s => ?_⟩
        rw [this.2]
        constructor
        · exact .inl
        · rintro (hj | ⟨rfl, -⟩)
          · exact hj
          · exact absurd rfl hdc
    · rw [← h.cn n, has_iff, has_iff]
      constructor
      · rintro ⟨d, hd, e⟩
        obtain ⟨d, hd0, rfl⟩ := List.mem_map.1 hd
        refine ⟨d, hd0, ?_⟩
        rw [← e]
        split <;> rfl
      · rintro ⟨d, hd, e⟩
        refine ⟨_, List.mem_map.2 ⟨d, hd, rfl⟩, ?_⟩
        rw [← e]
        split <;> rfl
  · have he : (Roll.join R c x).2 = 9 := by
      unfold Roll.join
      rw [hy, h.find_x hx]
      simp [hs]
    refine ⟨.inr he, ?_⟩
    rw [if_neg (by rw [he]; decide)]
    have hJ : J c x := by
      obtain ⟨s, hs1, e⟩ := has_iff.1 hs
      have e : s = x := e
      subst e
      have := (h.ct y hym).2 s
      rw [hyn] at this
      exact this.1 hs1
    refine ⟨h.inv, h.ms, h.xs, h.cs, fun d hd => ?_, h.cn⟩
    have := h.ct d hd
    refine ⟨this.1, fun s => ?_⟩
    rw [this.2]
    constructor
    · exact .inl
    · rintro (hj | ⟨h1, rfl⟩)
      · exact hj
      · rw [h1]; exact hJ
/-- Two such rolls are one. -/
theorem St.same {R' : Rl} (h : St R X C J) (k : St R' X C J) : R = R' := by
  have e1 : R.mems = R'.mems := srt_ext h.inv.ms k.inv.ms (fun m => by rw [h.ms, k.ms])
  have key : ∀ {R R' : Rl} (_ : St R X C J) (_ : St R' X C J), ∀ c ∈ R.clss, c ∈ R'.clss := fun {R R'} h k c hc => by
    obtain ⟨d, hd, e⟩ := has_iff.1 ((k.cn _).2 ((h.cn _).1 (has_iff.2 ⟨c, hc, rfl⟩)))
    have h1 := h.ct c hc
    have k1 := k.ct d hd
    have hs : c.students = d.students := srt_ext (h.inv.cg c hc).2.2.1 (k.inv.cg d hd).2.2.1 (fun s => by rw [h1.2, k1.2, e])
    have : c = d := by
      obtain ⟨n, t, st⟩ := c
      obtain ⟨n', t', st'⟩ := d
      simp only at e hs h1 k1
      rw [h1.1, k1.1, e, hs]
    rw [this]
    exact hd
  have e2 : R.clss = R'.clss := srt_ext h.inv.cs k.inv.cs (fun c => ⟨key h k c, key k h c⟩)
  obtain ⟨m, c⟩ := R
  obtain ⟨m', c'⟩ := R'
  simp only at e1 e2
  rw [e1, e2]
theorem St.weak {X' C' : B → Prop} {J' : B → B → Prop} (h : St R X C J) (hX : ∀ x, X x ↔ X' x) (hC : ∀ x, C x ↔ C' x) (hJ : ∀ x y, J x y ↔ J' x y) : St R X' C' J' := by
  have e1 : X = X' := funext fun x => propext (hX x)
  have e2 : C = C' := funext fun x => propext (hC x)
  have e3 : J = J' := funext fun x => funext fun y => propext (hJ x y)
  rw [← e1, ← e2, ← e3]
  exact h
def GoodT (l : List (B × B)) : Prop := ∀ a ∈ l, IsX a.1 ∧ IsC a.2
theorem run0 : ∀ (l : List (B × B)) {R : Rl} {X : B → Prop} (_ : GoodT l) (_ : St R X C J), St (rollT 0 R l) (fun z => X z ∨ z ∈ l.map (·.1)) C J
  | [], _, _, _, h => h.weak (fun x => by simp) (fun _ => Iff.rfl) (fun _ _ => Iff.rfl)
  | a :: l, R, X, hg, h => by
    have h1 := (h.enrol a.1 (hg a (by simp)).1 a.2).2
    have := run0 l (fun b hb => hg b (by simp [hb])) h1
    exact this.weak (fun x => by simp only [List.map_cons, List.mem_cons]; exact or_assoc) (fun _ => Iff.rfl) (fun _ _ => Iff.rfl)
theorem run1 : ∀ (l : List (B × B)) {R : Rl} {C : B → Prop} (_ : GoodT l) (_ : St R X C fun _ _ => False), St (rollT 1 R l) X (fun z => C z ∨ z ∈ l.map (·.2)) fun _ _ => False
  | [], _, _, _, h => h.weak (fun _ => Iff.rfl) (fun x => by simp) (fun _ _ => Iff.rfl)
  | a :: l, R, C, hg, h => by
    have h1 := (h.open_ a.2 (hg a (by simp)).2 a.1).2
    have := run1 l (fun b hb => hg b (by simp [hb])) h1
    exact this.weak (fun _ => Iff.rfl) (fun x => by simp only [List.map_cons, List.mem_cons]; exact or_assoc) (fun _ _ => Iff.rfl)
theorem run2 : ∀ (l : List (B × B)) {R : Rl} {J : B → B → Prop} (_ : ∀ a ∈ l, X a.1 ∧ C a.2) (_ : St R X C J), St (rollT 2 R l) X C fun n s => J n s ∨ (s, n) ∈ l
  | [], _, _, _, h => h.weak (fun _ => Iff.rfl) (fun _ => Iff.rfl) (fun x y => by simp)
  | a :: l, R, J, hg, h => by
    have h1 := (h.join a.2 a.1 (hg a (by simp)).2 (hg a (by simp)).1).2
    have := run2 l (fun b hb => hg b (by simp [hb])) h1
    exact this.weak (fun _ => Iff.rfl) (fun _ => Iff.rfl) (fun x y => by
      simp only [List.mem_cons]
      constructor
      · rintro ((h | ⟨h1, h2⟩) | h)
        · exact .inl h
        · exact .inr (.inl (by rw [h1, h2]))
        · exact .inr (.inr h)
      · rintro (h | h | h)
        · exact .inl (.inl h)
        · exact .inl (.inr ⟨congrArg Prod.snd h, congrArg Prod.fst h⟩)
        · exact .inr h)
def R0 : Rl := (Roll.enrol Roll.nil tt 2).1
theorem st0 : St R0 (fun _ => False) (fun _ => False) (fun _ _ => False) := by
  have e : R0 = ⟨[⟨tt, 2, 4096⟩], []⟩ := rfl
  refine ⟨inv_enrol inv_nil tt 2, fun m => ?_, fun x h => h.elim, fun x h => h.elim, fun c hc => ?_, fun n => ?_⟩
  · rw [e]; simp
  · rw [e] at hc; simp at hc
  · rw [e]; simp [has]
/-- The three passes over a list. -/
def passT (l : List (B × B)) : Nat → Rl
  | 0 => R0
  | p + 1 => rollT p (passT l p) l
theorem pass1 {l : List (B × B)} (h : GoodT l) : St (passT l 1) (fun z => z ∈ l.map (·.1)) (fun _ => False) (fun _ _ => False) := (run0 l h st0).weak (fun _ => by simp) (fun _ => Iff.rfl) (fun _ _ => Iff.rfl)
theorem pass2 {l : List (B × B)} (h : GoodT l) : St (passT l 2) (fun z => z ∈ l.map (·.1)) (fun z => z ∈ l.map (·.2)) (fun _ _ => False) := (run1 l h (pass1 h)).weak (fun _ => Iff.rfl) (fun _ => by simp) (fun _ _ => Iff.rfl)
theorem pass3 {l : List (B × B)} (h : GoodT l) : St (passT l 3) (fun z => z ∈ l.map (·.1)) (fun z => z ∈ l.map (·.2)) (fun n s => (s, n) ∈ l) :=
  (run2 l (fun a ha => ⟨List.mem_map.2 ⟨a, ha, rfl⟩, List.mem_map.2 ⟨a, ha, rfl⟩⟩) (pass2 h)).weak (fun _ => Iff.rfl) (fun _ => Iff.rfl) (fun _ _ => by simp)
theorem pass_turned {l : List (B × B)} (h : GoodT l) : passT l 3 = passT l.reverse 3 := by
  have h2 : GoodT l.reverse := fun a ha => h a (List.mem_reverse.1 ha)
  exact (pass3 h).same ((pass3 h2).weak (fun x => by simp) (fun x => by simp) (fun x y => by simp))
/-- On the way: each answer is 'done' or 'there already'; the roll is a roll. -/
theorem pass_ok {l : List (B × B)} (h : GoodT l) (p k : Nat) (hp : p < 3) (hk : k < l.length) : Ok (doT p (rollT p (passT l p) (l.take k)) l[k]) := by
  have hgt : GoodT (l.take k) := fun a ha => h a (List.mem_of_mem_take ha)
  have ha := h l[k] (List.getElem_mem hk)
  have : p = 0 ∨ p = 1 ∨ p = 2 := by omega
  rcases this with rfl | rfl | rfl
  · exact ((run0 (l.take k) hgt st0).enrol l[k].1 ha.1 l[k].2).1
  · exact ((run1 (l.take k) hgt (pass1 h)).open_ l[k].2 ha.2 l[k].1).1
  · exact ((run2 (l.take k) (fun a ha => ⟨List.mem_map.2 ⟨a, List.mem_of_mem_take ha, rfl⟩, List.mem_map.2 ⟨a, List.mem_of_mem_take ha, rfl⟩⟩) (pass2 h)).join l[k].2 l[k].1 (List.mem_map.2 ⟨_, List.getElem_mem hk, rfl⟩) (List.mem_map.2 ⟨_, List.getElem_mem hk, rfl⟩)).1
theorem pass_inv {l : List (B × B)} (h : GoodT l) (p k : Nat) (hp : p < 3) : Inv (rollT p (passT l p) (l.take k)) := by
  have hgt : GoodT (l.take k) := fun a ha => h a (List.mem_of_mem_take ha)
  have : p = 0 ∨ p = 1 ∨ p = 2 := by omega
  rcases this with rfl | rfl | rfl
  · exact (run0 (l.take k) hgt st0).inv
  · exact (run1 (l.take k) hgt (pass1 h)).inv
  · exact (run2 (l.take k) (fun a ha => ⟨List.mem_map.2 ⟨a, List.mem_of_mem_take ha, rfl⟩, List.mem_map.2 ⟨a, List.mem_of_mem_take ha, rfl⟩⟩) (pass2 h)).inv
end Roll
end Go.Proofs.YtofcmghhmklmiaaGreat

namespace Go.Proofs.YtofcmghhmklmiaaGreat
open Go.RowKit
open Roll

theorem RlR.shapes {w : World} {mv cv : Value} {R : Rl} (h : RlR w mv cv R) : ∃ ma mc ca cc, mv = .slice ma R.mems.length mc ∧ cv = .slice ca R.clss.length cc := by
  obtain ⟨ma, mc, e1⟩ := h.mr.shape
  obtain ⟨cs, hcs, hcr, -⟩ := h.cr
  obtain ⟨ca, cc, e2⟩ := hcr.shape
  have hl : cs.length = R.clss.length := by rw [← hcs]; simp
  exact ⟨ma, mc, ca, cc, e1, by rw [e2, hl]⟩
/-- The same, the lengths left open. -/
theorem RlR.any {w : World} {mv cv : Value} {R : Rl} (h : RlR w mv cv R) : ∃ ma ml mc ca cl cc, mv = .slice ma ml mc ∧ cv = .slice ca cl cc := by
  obtain ⟨ma, mc, ca, cc, e1, e2⟩ := h.shapes
  exact ⟨_, _, _, _, _, _, e1, e2⟩
theorem nil_shapes {w : World} {mv cv : Value} (h : RlR w mv cv Roll.nil) : ∃ ma mc ca cc, mv = .slice ma 0 mc ∧ cv = .slice ca 0 cc := h.shapes
set_option maxRecDepth 100000 in
set_option maxHeartbeats 4000000 in
theorem rollspeaks (w : World) : Calls Tryz.prog 4 #[] w fun e w' => e = .returned (.bool true) ∧ Frm No w w' := by
  have h1 := hid (fun w1 => renrol_any Roll.nil (.slice none 0 0) (.slice none 0 0) [97] 1 w1 (nil_rd w1) inv_nil (by decide))
  have hI : Inv (enrol Roll.nil [97] 1).1 := inv_enrol inv_nil [97] 1
  have e1 : enrol Roll.nil [97] 1 = (⟨[⟨[97], 1, 4096⟩], []⟩, 0) := by kernel_rfl
  have e2 : open_ ⟨[⟨[97], 1, 4096⟩], []⟩ [99] [97] = (Roll.nil, 13) := by kernel_rfl
  have e3 : find Mem.name [⟨[97], 1, 4096⟩] [97] = some (⟨[97], 1, 4096⟩ : Mem) := by kernel_rfl
  rw [e1] at hI
  have h2 := hid (fun w1 mv cv (hr : RlR w1 mv cv ⟨[⟨[97], 1, 4096⟩], []⟩) => ropen_any _ mv cv [99] [97] w1 hr hI (by decide))
  have h3 := hid (fun w1 mv cv (hr : RlR w1 mv cv ⟨[⟨[97], 1, 4096⟩], []⟩) => rmember_any _ mv cv [97] w1 hr hI.ms (by decide))
  simp only [e1] at h1
  simp only [e2] at h2
  simp only [e3, Option.getD_some, Option.isSome_some, mag] at h3
  clear hI e1 e2 e3
  go_enter Tryz.func4, Tryz.ntmps4
  go_upto_region 2 with (go_at_call 18; refine (h1.out _).mono ?_; rintro e w1 ⟨mv, cv, rfl, hr, hf1⟩; obtain ⟨ma, mc, rfl⟩ := hr.mr.shape; obtain ⟨cs, hcs, hcr, -⟩ := hr.cr; obtain ⟨ca, cc, rfl⟩ := hcr.shape; have hl0 : cs.length = 0 := by (have := congrArg List.length hcs; simpa using this))
  try dsimp only at hr
  rw [hl0] at hr
  try rw [hl0]
  have B1 := Box.new hf1 [.slice ma 1 mc, .slice ca 0 cc] 27
  have hr1 : RlR (w1.alloc (.cells #[.slice ma 1 mc, .slice ca 0 cc] 27)) (.slice ma 1 mc) (.slice ca 0 cc) ⟨[⟨[97], 1, 4096⟩], []⟩ := hr.no ((Frm.refl No w1).alloc _)
  try dsimp only [List.length_cons, List.length_nil]
  generalize w1.alloc (.cells #[.slice ma 1 mc, .slice ca 0 cc] 27) = wa at *
  obtain ⟨b, hb⟩ : ∃ b, w1.heap.size = b := ⟨_, rfl⟩
  rw [hb] at B1
  try rw [hb]
  have c1 := B1.cell
  have HB := hid B1
  have HR := hid hr1
  clear B1 hr1 hr hcr hcs hf1 h1
  go_upto_region 3 with (go_at_call 19; refine (h2.out _ _ _ HR.out).mono ?_; rintro e w2 ⟨mv2, cv2, rfl, hr2, hf2⟩; obtain ⟨ma2, mc2, ca2, cc2, rfl, rfl⟩ := nil_shapes hr2)
  have B2 := (HB.out.no hf2).no ((Frm.refl No w2).alloc (.cells #[.slice ma2 0 mc2, .slice ca2 0 cc2] 27))
  have hr3 := (HR.out.no hf2).no ((Frm.refl No w2).alloc (.cells #[.slice ma2 0 mc2, .slice ca2 0 cc2] 27))
  generalize w2.alloc (.cells #[.slice ma2 0 mc2, .slice ca2 0 cc2] 27) = wb at *
  have c2 := B2.cell
  have HB2 := hid B2
  have HR2 := hid hr3
  clear c1 B2 hr3 hr2 hf2 HB HR h2
  go_wp2_with (go_at_call 12; refine (h3.out _ _ _ HR2.out).mono ?_; rintro e w3 ⟨rfl, hf3⟩)
  go_ret
  exact ⟨rfl, (HB2.out.no hf3).frm.alloc _⟩

theorem RdL.frmE {α : Type} {w w' : World} {v : Value} {size : Nat} {cells : α → List Value} {xs : List α} {S : Nat → Prop} (h : RdL w v size cells xs) (hsz : ∀ x ∈ xs, (cells x).length = size)
    (hf : Frm S w w') (hS : ∀ k, v.ownBlock = some k → xs ≠ [] → ¬ S k) : RdL w' v size cells xs := by
  by_cases hx : xs = []
  · subst hx
    obtain ⟨ao, c, rfl⟩ := h.shape
    exact ⟨.inl ⟨rfl, _, _, rfl⟩⟩
  · exact h.frm hsz hf (fun k hk => hS k hk hx)
/-- A block that holds no string is none of a roll's. -/
theorem RdL.noStr {α : Type} {w w' : World} {v : Value} {size : Nat} {cells : α → List Value} {xs : List α} {E : Nat} (h : RdL w v size cells xs) (hsz : ∀ x ∈ xs, (cells x).length = size) (h0 : 0 < size) (hs : ∀ x ∈ xs, ∃ s, (cells x)[0]? = some (.string s))
    (hE : ∀ j s, w.cell? ⟨E, j, none⟩ ≠ some (.string s)) (hf : Frm (One E) w w') : RdL w' v size cells xs := by
  refine h.frmE hsz hf (fun k hk hx e => ?_)
  have e : k = E := e
  subst e
  rcases h.cells with ⟨h1, _⟩ | ⟨b, o, c, rfl, hc⟩
  · exact hx h1
  · have hl : 0 < xs.length := List.length_pos_iff.2 hx
    obtain ⟨s, hs⟩ := hs xs[0] (List.getElem_mem hl)
    have := hc 0 hl 0 h0
    simp only [Value.ownBlock, Option.some.injEq] at hk
    subst hk
    rw [hs] at this
    exact hE _ _ this
theorem RlR.box {w w' : World} {mv cv : Value} {R : Rl} {E : Nat} (h : RlR w mv cv R) (hE : ∀ j s, w.cell? ⟨E, j, none⟩ ≠ some (.string s)) (hf : Frm (One E) w w') : RlR w' mv cv R := by
  obtain ⟨cs, h1, h2, h3⟩ := h.cr
  exact ⟨h.mr.noStr (fun _ _ => rfl) (by omega) (fun x _ => ⟨_, rfl⟩) hE hf, cs, h1, h2.noStr (fun _ _ => rfl) (by omega) (fun x _ => ⟨_, rfl⟩) hE hf, fun p hp => (h3 p hp).noStr (fun _ _ => rfl) (by omega) (fun x _ => ⟨_, rfl⟩) hE hf⟩
def NoStr (cs : List Value) : Prop := ∀ (j : Nat) s, cs[j]? ≠ some (.string s)
theorem noStr2 {a b : Value} (ha : ∃ x n c, a = .slice x n c) (hb : ∃ x n c, b = .slice x n c) : NoStr [a, b] := by
  obtain ⟨x, n, c, rfl⟩ := ha
  obtain ⟨y, m, d, rfl⟩ := hb
  intro j s
  match j with
  | 0 => simp
  | 1 => simp
  | j + 2 => simp
theorem noStr4 {a b c d : Value} (ha : ∃ x n c, a = .slice x n c) (hb : ∃ x n c, b = .slice x n c) (hc : ∃ x n e, c = .slice x n e) (hd : ∃ x n e, d = .slice x n e) : NoStr [a, b, c, d] := by
  obtain ⟨_, _, _, rfl⟩ := ha
  obtain ⟨_, _, _, rfl⟩ := hb
  obtain ⟨_, _, _, rfl⟩ := hc
  obtain ⟨_, _, _, rfl⟩ := hd
  intro j s
  match j with
  | 0 => simp
  | 1 => simp
  | 2 => simp
  | 3 => simp
  | j + 4 => simp
/-- A roll, and a block of the call's own that holds no string. -/
structure RB (w0 w : World) (E : Nat) (cs : List Value) : Prop where
  box : Box w0 w E cs
  no : NoStr cs
theorem RB.rl {w0 w w' : World} {E : Nat} {cs : List Value} {mv cv : Value} {R : Rl} (h : RB w0 w E cs) (hr : RlR w mv cv R) (hf : Frm (One E) w w') : RlR w' mv cv R :=
  hr.box (fun j s e => h.no j s (by rw [← h.box.cell j]; exact e)) hf
end Go.Proofs.YtofcmghhmklmiaaGreat
