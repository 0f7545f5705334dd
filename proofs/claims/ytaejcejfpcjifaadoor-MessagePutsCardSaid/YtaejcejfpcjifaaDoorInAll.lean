/- The walks of octets.In's methods. The walks of octets.In's Int, Bool, size, Text. The walks of octets.In's size, Text. The walks of octets.In's Ints, Texts. The plain laws of reading: what was written is read again, and what is read is what is written so. No program is in sight here. -/
import Derived.Test.YtaejcejfpcjifaaDoorOutAll
namespace Go.Proofs.YtaejcejfpcjifaaDoor
open Go.RowKit

/-! What reading does, in plain words: what is left, the first error (0: none). -/
namespace Oct
def rInt (s : List UInt8) (e : Int) : Int × List UInt8 × Int :=
  if e = 0 then (if (dec s).2.2 = 0 then ((dec s).1, s.drop (dec s).2.1, 0) else (0, s, (dec s).2.2)) else (0, s, e)
def rBool (s : List UInt8) (e : Int) : Bool × List UInt8 × Int :=
  if e = 0 then (match s with
    | [] => (false, s, 3)
    | c :: r => if 1 < c.toNat then (false, s, 2) else (decide (c.toNat = 1), r, 0)) else (false, s, e)
def rSize (most : Int) (s : List UInt8) (e : Int) : Int × List UInt8 × Int :=
  if e = 0 then
    (if (rInt s 0).2.2 = 0 then
      (if (rInt s 0).1 < 0 then (0, (rInt s 0).2.1, 2) else if most < (rInt s 0).1 ∨ 65536 < (rInt s 0).1 then (0, (rInt s 0).2.1, 6) else rInt s 0)
    else (0, (rInt s 0).2.1, (rInt s 0).2.2))
  else (0, s, e)
def rText (s : List UInt8) (e : Int) : List UInt8 × List UInt8 × Int :=
  if (rSize 65536 s e).2.2 = 0 then
    (if (rSize 65536 s e).2.1.length < (rSize 65536 s e).1.toNat then ([], (rSize 65536 s e).2.1, 3)
     else ((rSize 65536 s e).2.1.take (rSize 65536 s e).1.toNat, (rSize 65536 s e).2.1.drop (rSize 65536 s e).1.toNat, 0))
  else ([], (rSize 65536 s e).2.1, (rSize 65536 s e).2.2)
/-- So many numbers more. -/
def nInts : Nat → List UInt8 → List Int → List Int × List UInt8 × Int
  | 0, s, acc => (acc, s, 0)
  | n + 1, s, acc => if (rInt s 0).2.2 = 0 then nInts n (rInt s 0).2.1 (acc ++ [(rInt s 0).1]) else ([], (rInt s 0).2.1, (rInt s 0).2.2)
def nTexts : Nat → List UInt8 → List (List UInt8) → List (List UInt8) × List UInt8 × Int
  | 0, s, acc => (acc, s, 0)
  | n + 1, s, acc => if (rText s 0).2.2 = 0 then nTexts n (rText s 0).2.1 (acc ++ [(rText s 0).1]) else ([], (rText s 0).2.1, (rText s 0).2.2)
def rInts (most : Int) (s : List UInt8) (e : Int) : List Int × List UInt8 × Int :=
  if (rSize most s e).2.2 = 0 then nInts (rSize most s e).1.toNat (rSize most s e).2.1 [] else ([], (rSize most s e).2.1, (rSize most s e).2.2)
def rTexts (most : Int) (s : List UInt8) (e : Int) : List (List UInt8) × List UInt8 × Int :=
  if (rSize most s e).2.2 = 0 then nTexts (rSize most s e).1.toNat (rSize most s e).2.1 [] else ([], (rSize most s e).2.1, (rSize most s e).2.2)
def rEnd (s : List UInt8) (e : Int) : Int := if e = 0 then (if s = [] then 0 else 4) else e
end Oct

/-- An In lies at block b: what is left, the first error. -/
structure InAt (w : World) (b : Nat) (s : List UInt8) (e : Int) : Prop where
  c0 : w.cell? ⟨b, 0, none⟩ = some (.string ⟨s.toArray⟩)
  c1 : w.cell? ⟨b, 1, none⟩ = some (.int .i64 e)
  f : ∀ j, w.frozen? ⟨b, j, none⟩ = false

theorem InAt.lt {w : World} {b : Nat} {s : List UInt8} {e : Int} (h : InAt w b s e) : b < w.heap.size := World.block_lt_of_cell? w _ h.c0
theorem InAt.frm {w w1 : World} {b : Nat} {s : List UInt8} {e : Int} (h : InAt w b s e) {S : Nat → Prop} (hf : Frm S w w1) (hS : ¬ S b) : InAt w1 b s e :=
  ⟨(hf.cell (p := ⟨b, 0, none⟩) h.lt hS).trans h.c0, (hf.cell (p := ⟨b, 1, none⟩) h.lt hS).trans h.c1, fun j => (hf.frozen (p := ⟨b, j, none⟩) h.lt hS).trans (h.f j)⟩
theorem InAt.setE {w : World} {b : Nat} {s : List UInt8} {e e' : Int} (h : InAt w b s e) : InAt (w.setCell ⟨b, 1, none⟩ (.int .i64 e')) b s e' :=
  ⟨(World.cell?_setCell_other _ _ _ _ (by simp)).trans h.c0, World.cell?_setCell_same _ _ _ h.c1, fun j => (World.frozen?_setCell _ _ _ _).trans (h.f j)⟩
theorem InAt.setS {w : World} {b : Nat} {s s' : List UInt8} {e : Int} (h : InAt w b s e) : InAt (w.setCell ⟨b, 0, none⟩ (.string ⟨s'.toArray⟩)) b s' e :=
  ⟨World.cell?_setCell_same _ _ _ h.c0, (World.cell?_setCell_other _ _ _ _ (by simp)).trans h.c1, fun j => (World.frozen?_setCell _ _ _ _).trans (h.f j)⟩
theorem frmOne {w : World} {b j : Nat} {v : Value} : Frm (One b) w (w.setCell ⟨b, j, none⟩ v) := Frm.setCell (p := ⟨b, j, none⟩) (Frm.refl (One b) w) (fun _ => rfl) _

theorem get_at {l : List UInt8} {n : Int} {k : Nat} {e : Int} (hd : Oct.dec l = (n, k, e)) (w : World) (h : l.length ≤ 281474976710656) :
    Calls Tryd.prog 53 #[.string ⟨l.toArray⟩] w fun r w' => r = .returned (.tuple #[.int .i64 n, .int .i64 (k : Int), .int .i64 e]) ∧ Frm No w w' :=
  (get_any l w h).mono fun r w' ⟨hr, hf⟩ => ⟨by rw [hr, hd], hf⟩

theorem in_open (s : List UInt8) (w : World) :
    Calls Tryd.prog 34 #[.string ⟨s.toArray⟩] w fun r w' => ∃ b, r = .returned (.pointer (some ⟨b, 0, none⟩)) ∧ w.heap.size ≤ b ∧ InAt w' b s 0 ∧ Frm No w w' := by
  go_enter Tryd.func34, Tryd.ntmps34
  go_wp2_with fail
  go_ret
  exact ⟨_, rfl, Nat.le_refl _, ⟨by rw [World.cell?_alloc_at _ _ _ _ rfl]; rfl, by rw [World.cell?_alloc_at _ _ _ _ rfl]; rfl, fun j => World.frozen?_alloc_at _ _ _ _ rfl⟩, (Frm.refl _ _).alloc _⟩

theorem ready_yes (b : Nat) (s : List UInt8) (w : World) (h : InAt w b s 0) :
    Calls Tryd.prog 55 #[.pointer (some ⟨b, 0, none⟩)] w fun r w' => r = .returned (.bool true) ∧ w = w' := by
  have h1 := h.c1
  go_enter Tryd.func55, Tryd.ntmps55
  go_wp2_with fail
  go_ret
  exact ⟨rfl, rfl⟩
theorem ready_no (b : Nat) (s : List UInt8) (e : Int) (w : World) (h : InAt w b s e) (he : (e == 0) = false) :
    Calls Tryd.prog 55 #[.pointer (some ⟨b, 0, none⟩)] w fun r w' => r = .returned (.bool false) ∧ w = w' := by
  have h1 := h.c1
  go_enter Tryd.func55, Tryd.ntmps55
  go_wp2_with fail
  go_ret
  exact ⟨rfl, rfl⟩
theorem ready_nil (w : World) :
    Calls Tryd.prog 55 #[.pointer none] w fun r w' => r = .returned (.bool false) ∧ w = w' := by
  go_enter Tryd.func55, Tryd.ntmps55
  go_wp2_with fail
  go_ret
  exact ⟨rfl, rfl⟩
theorem fail_first (b : Nat) (s : List UInt8) (e : Int) (w : World) (h : InAt w b s 0) :
    Calls Tryd.prog 56 #[.pointer (some ⟨b, 0, none⟩), .int .i64 e] w fun r w' => r = .returned (.tuple #[]) ∧ InAt w' b s e ∧ Frm (One b) w w' := by
  have h1 := h.c1
  have h2 := h.f
  go_enter Tryd.func56, Tryd.ntmps56
  go_wp2_with fail
  go_end0
  exact ⟨rfl, h.setE, frmOne⟩
theorem fail_later (b : Nat) (s : List UInt8) (e e' : Int) (w : World) (h : InAt w b s e) (he : (e == 0) = false) :
    Calls Tryd.prog 56 #[.pointer (some ⟨b, 0, none⟩), .int .i64 e'] w fun r w' => r = .returned (.tuple #[]) ∧ w = w' := by
  have h1 := h.c1
  go_enter Tryd.func56, Tryd.ntmps56
  go_wp2_with fail
  go_end0
  exact ⟨rfl, rfl⟩
theorem in_err (b : Nat) (s : List UInt8) (e : Int) (w : World) (h : InAt w b s e) :
    Calls Tryd.prog 35 #[.pointer (some ⟨b, 0, none⟩)] w fun r w' => r = .returned (.int .i64 e) ∧ w = w' := by
  have h1 := h.c1
  go_enter Tryd.func35, Tryd.ntmps35
  go_wp2_with fail
  go_ret
  exact ⟨rfl, rfl⟩
theorem in_err_nil (w : World) :
    Calls Tryd.prog 35 #[.pointer none] w fun r w' => r = .returned (.int .i64 1) ∧ w = w' := by
  go_enter Tryd.func35, Tryd.ntmps35
  go_wp2_with fail
  go_ret
  exact ⟨rfl, rfl⟩
theorem in_end (b : Nat) (s : List UInt8) (e : Int) (w : World) (h : InAt w b s e) :
    Calls Tryd.prog 36 #[.pointer (some ⟨b, 0, none⟩)] w fun r w' => r = .returned (.int .i64 (Oct.rEnd s e)) ∧ w = w' := by
  have h0 := h.c0
  by_cases he : e = 0
  · subst he
    cases s with
    | nil =>
      go_enter Tryd.func36, Tryd.ntmps36
      go_wp2_with (go_at_call 35; refine (in_err b _ _ _ h).mono ?_; rintro r w1 ⟨rfl, rfl⟩)
      go_ret
      exact ⟨rfl, rfl⟩
    | cons c s =>
      go_enter Tryd.func36, Tryd.ntmps36
      go_wp2_with (go_at_call 35; refine (in_err b _ _ _ h).mono ?_; rintro r w1 ⟨rfl, rfl⟩)
      go_ret
      exact ⟨rfl, rfl⟩
  · have HE : Hid (Oct.rEnd s e = e) := if_neg he
    have he' : (e == 0) = false := by simpa using he
    clear he
    go_enter Tryd.func36, Tryd.ntmps36
    go_wp2_with (go_at_call 35; refine (in_err b _ _ _ h).mono ?_; rintro r w1 ⟨rfl, rfl⟩)
    go_ret
    exact ⟨by rw [HE.out]; rfl, rfl⟩
theorem in_end_nil (w : World) :
    Calls Tryd.prog 36 #[.pointer none] w fun r w' => r = .returned (.int .i64 1) ∧ w = w' := by
  go_enter Tryd.func36, Tryd.ntmps36
  go_wp2_with (go_at_call 35; refine (in_err_nil _).mono ?_; rintro r w1 ⟨rfl, rfl⟩)
  go_ret
  exact ⟨rfl, rfl⟩
end Go.Proofs.YtaejcejfpcjifaaDoor

namespace Go.Proofs.YtaejcejfpcjifaaDoor
open Go.RowKit

def InP (b : Nat) (w : World) (v : Value) (x : List UInt8 × Int) (r : Ending) (w' : World) : Prop := r = .returned v ∧ InAt w' b x.1 x.2 ∧ Frm (One b) w w'
theorem InP_mk {b : Nat} {w : World} {v v' : Value} {x : List UInt8 × Int} {s : List UInt8} {e : Int} {w' : World} (hv : v' = v) (hx : x = (s, e)) (ha : InAt w' b s e) (hf : Frm (One b) w w') : InP b w v x (.returned v') w' := by
  subst hv hx; exact ⟨rfl, ha, hf⟩

theorem rInt_no {s : List UInt8} {e : Int} (he : e ≠ 0) : Oct.rInt s e = (0, s, e) := if_neg he
theorem rInt_ok {s : List UInt8} {n : Int} {k : Nat} (hd : Oct.dec s = (n, k, 0)) : Oct.rInt s 0 = (n, s.drop k, 0) := by unfold Oct.rInt; rw [if_pos rfl, hd]; exact if_pos rfl
theorem rInt_er {s : List UInt8} {n : Int} {k : Nat} {e : Int} (hd : Oct.dec s = (n, k, e)) (he : e ≠ 0) : Oct.rInt s 0 = (0, s, e) := by unfold Oct.rInt; rw [if_pos rfl, hd]; exact if_neg he

set_option maxRecDepth 100000 in
theorem in_int (b : Nat) (s : List UInt8) (e : Int) (w : World) (h : InAt w b s e) (hl : s.length ≤ 281474976710656) :
    Calls Tryd.prog 38 #[.pointer (some ⟨b, 0, none⟩)] w (InP b w (.int .i64 (Oct.rInt s e).1) (Oct.rInt s e).2) := by
  by_cases he : e = 0
  · subst he
    have h0 := h.c0
    have h2 := h.f
    obtain ⟨n, k, er, hd⟩ : ∃ n k er, Oct.dec s = (n, k, er) := ⟨_, _, _, rfl⟩
    by_cases her : er = 0
    · subst her
      have HR := hid (rInt_ok hd)
      have hk := (Oct.dec_ok hd).2.2.2.1
      have HD := hid hd
      have htk : List.take (s.length - k) (List.drop k s) = List.drop k s := List.take_of_length_le (by simp)
      clear hd
      go_enter Tryd.func38, Tryd.ntmps38
      go_wp2_with (first | (go_at_call 55; refine (ready_yes b _ _ h).mono ?_; rintro r w1 ⟨rfl, rfl⟩) | (go_at_call 53; refine (get_at HD.out _ hl).mono ?_; rintro r w1 ⟨rfl, hf⟩; have ha := h.frm hf (fun h => h); have k0 := ha.c0; have k2 := ha.f))
      go_ret
      exact InP_mk (by rw [HR.out]; rfl) (by rw [HR.out]) ha.setS (hf.any.then_ frmOne)
    · have HR := hid (rInt_er hd her)
      have HD := hid hd
      have her' : (er == 0) = false := by simpa using her
      clear hd her
      go_enter Tryd.func38, Tryd.ntmps38
      go_wp2_with (first | (go_at_call 55; refine (ready_yes b _ _ h).mono ?_; rintro r w1 ⟨rfl, rfl⟩) | (go_at_call 53; refine (get_at HD.out _ hl).mono ?_; rintro r w1 ⟨rfl, hf⟩; have ha := h.frm hf (fun h => h)) | (go_at_call 56; refine (fail_first b _ _ _ ha).mono ?_; rintro r w2 ⟨rfl, hb, hg⟩))
      go_ret
      exact InP_mk (by rw [HR.out]; rfl) (by rw [HR.out]) hb (hf.any.then_ hg)
  · have HR := hid (rInt_no (s := s) he)
    have he' : (e == 0) = false := by simpa using he
    clear he
    go_enter Tryd.func38, Tryd.ntmps38
    go_wp2_with (go_at_call 55; refine (ready_no b _ _ _ h he').mono ?_; rintro r w1 ⟨rfl, rfl⟩)
    go_ret
    exact InP_mk (by rw [HR.out]; rfl) (by rw [HR.out]) h (Frm.refl _ _)

theorem in_int_nil (w : World) :
    Calls Tryd.prog 38 #[.pointer none] w fun r w' => r = .returned (.int .i64 0) ∧ w = w' := by
  go_enter Tryd.func38, Tryd.ntmps38
  go_wp2_with (go_at_call 55; refine (ready_nil _).mono ?_; rintro r w1 ⟨rfl, rfl⟩)
  go_ret
  exact ⟨rfl, rfl⟩

theorem rBool_no {s : List UInt8} {e : Int} (he : e ≠ 0) : Oct.rBool s e = (false, s, e) := if_neg he
theorem rBool_hi {c : UInt8} {s : List UInt8} (h : 1 < c.toNat) : Oct.rBool (c :: s) 0 = (false, c :: s, 2) := by unfold Oct.rBool; rw [if_pos rfl]; exact if_pos h
theorem rBool_ok {c : UInt8} {s : List UInt8} (h : ¬ 1 < c.toNat) : Oct.rBool (c :: s) 0 = (decide (c.toNat = 1), s, 0) := by unfold Oct.rBool; rw [if_pos rfl]; exact if_neg h

end Go.Proofs.YtaejcejfpcjifaaDoor

namespace Go.Proofs.YtaejcejfpcjifaaDoor
open Go.RowKit

theorem rInt_zero {s : List UInt8} {e : Int} (h : (Oct.rInt s e).2.2 ≠ 0) : (Oct.rInt s e).1 = 0 := by
  unfold Oct.rInt at *
  split
  · split
    · simp_all
    · rfl
  · rfl
theorem rInt_len (s : List UInt8) (e : Int) : (Oct.rInt s e).2.1.length ≤ s.length := by
  unfold Oct.rInt
  split
  · split <;> simp
  · simp
theorem rInt_in {s : List UInt8} {e : Int} : -9007199254740992 ≤ (Oct.rInt s e).1 ∧ (Oct.rInt s e).1 ≤ 9007199254740992 := by
  unfold Oct.rInt
  split
  · split
    · rename_i h
      have := Oct.dec_ok (s := s) (n := (Oct.dec s).1) (k := (Oct.dec s).2.1) (by rw [← h])
      exact ⟨this.1, this.2.1⟩
    · simp
  · simp
theorem rSize_eq (most : Int) (s : List UInt8) (e : Int) : Oct.rSize most s e =
    if (Oct.rInt s e).2.2 = 0 then
      (if (Oct.rInt s e).1 < 0 then (0, (Oct.rInt s e).2.1, 2) else if most < (Oct.rInt s e).1 ∨ 65536 < (Oct.rInt s e).1 then (0, (Oct.rInt s e).2.1, 6) else Oct.rInt s e)
    else (0, (Oct.rInt s e).2.1, (Oct.rInt s e).2.2) := by
  by_cases he : e = 0
  · subst he; rw [Oct.rSize, if_pos rfl]
  · have h := rInt_no (s := s) he
    rw [Oct.rSize, if_neg he, h, if_neg he]
theorem rSize_len (most : Int) (s : List UInt8) (e : Int) : (Oct.rSize most s e).2.1.length ≤ s.length := by
  have := rInt_len s e
  rw [rSize_eq]
  repeat' split
  all_goals exact this
theorem rSize_in (most : Int) (s : List UInt8) (e : Int) : 0 ≤ (Oct.rSize most s e).1 ∧ (Oct.rSize most s e).1 ≤ 65536 ∧ ((Oct.rSize most s e).2.2 ≠ 0 → (Oct.rSize most s e).1 = 0) ∧ ((Oct.rSize most s e).1 ≤ most ∨ (Oct.rSize most s e).1 = 0) := by
  rw [rSize_eq]
  by_cases h1 : (Oct.rInt s e).2.2 = 0
  · rw [if_pos h1]
    by_cases h2 : (Oct.rInt s e).1 < 0
    · rw [if_pos h2]; simp
    · rw [if_neg h2]
      by_cases h3 : most < (Oct.rInt s e).1 ∨ 65536 < (Oct.rInt s e).1
      · rw [if_pos h3]; simp
      · rw [if_neg h3]
        exact ⟨by omega, by omega, fun h => absurd h1 h, by omega⟩
  · rw [if_neg h1]; simp

set_option maxRecDepth 100000 in
set_option maxHeartbeats 400000 in
theorem in_size (b : Nat) (most : Int) (s : List UInt8) (e : Int) (w : World) (h : InAt w b s e) (hl : s.length ≤ 281474976710656) :
    Calls Tryd.prog 66 #[.pointer (some ⟨b, 0, none⟩), .int .i64 most] w (InP b w (.int .i64 (Oct.rSize most s e).1) (Oct.rSize most s e).2) := by
  have HC := hid (in_int b s e w h hl)
  have hz := rInt_zero (s := s) (e := e)
  have hq := rSize_eq most s e
  have hn1 := (rInt_in (s := s) (e := e)).1
  have hn2 := (rInt_in (s := s) (e := e)).2
  obtain ⟨⟨n, s1, e1⟩, hx⟩ : ∃ x, Oct.rInt s e = x := ⟨_, rfl⟩
  rw [hx] at hz hq HC hn1 hn2
  clear hx
  simp only at hz hq HC hn1 hn2
  by_cases he1 : e1 = 0
  · subst he1
    rw [if_pos rfl] at hq
    by_cases h1 : n < 0
    · rw [if_pos h1] at hq
      have HQ := hid hq
      clear hq hz
      go_enter Tryd.func66, Tryd.ntmps66
      go_wp2_with (first | (go_at_call 38; refine HC.out.mono ?_; rintro r w1 ⟨rfl, ha, hf⟩) | (go_at_call 56; refine (fail_first b _ _ _ ha).mono ?_; rintro r w2 ⟨rfl, hb, hg⟩) | (go_at_call 55; refine (ready_no b _ _ _ hb rfl).mono ?_; rintro r w3 ⟨rfl, rfl⟩))
      go_ret
      exact InP_mk (by rw [HQ.out]; rfl) (by rw [HQ.out]) hb (hf.then_ hg)
    · rw [if_neg h1] at hq
      by_cases h2 : most < n ∨ 65536 < n
      · rw [if_pos h2] at hq
        have HQ := hid hq
        clear hq hz
        rcases h2 with h2 | h2
        · go_enter Tryd.func66, Tryd.ntmps66
          go_wp2_with (first | (go_at_call 38; refine HC.out.mono ?_; rintro r w1 ⟨rfl, ha, hf⟩) | (go_at_call 56; refine (fail_first b _ _ _ ha).mono ?_; rintro r w2 ⟨rfl, hb, hg⟩) | (go_at_call 55; refine (ready_no b _ _ _ hb rfl).mono ?_; rintro r w3 ⟨rfl, rfl⟩))
          go_ret
          exact InP_mk (by rw [HQ.out]; rfl) (by rw [HQ.out]) hb (hf.then_ hg)
        · by_cases h3 : most < n
          all_goals
            go_enter Tryd.func66, Tryd.ntmps66
            go_wp2_with (first | (go_at_call 38; refine HC.out.mono ?_; rintro r w1 ⟨rfl, ha, hf⟩) | (go_at_call 56; refine (fail_first b _ _ _ ha).mono ?_; rintro r w2 ⟨rfl, hb, hg⟩) | (go_at_call 55; refine (ready_no b _ _ _ hb rfl).mono ?_; rintro r w3 ⟨rfl, rfl⟩))
            go_ret
            exact InP_mk (by rw [HQ.out]; rfl) (by rw [HQ.out]) hb (hf.then_ hg)
      · rw [if_neg h2] at hq
        have HQ := hid hq
        have h3 : n ≤ most := by omega
        have h4 : n ≤ 65536 := by omega
        clear hq hz h2
        go_enter Tryd.func66, Tryd.ntmps66
        go_wp2_with (first | (go_at_call 38; refine HC.out.mono ?_; rintro r w1 ⟨rfl, ha, hf⟩) | (go_at_call 55; refine (ready_yes b _ _ ha).mono ?_; rintro r w3 ⟨rfl, rfl⟩))
        go_ret
        exact InP_mk (by rw [HQ.out]; rfl) (by rw [HQ.out]) ha hf
  · have hn0 := hz he1
    subst hn0
    rw [if_neg he1] at hq
    have HQ := hid hq
    have he' : (e1 == 0) = false := by simpa using he1
    clear hq hz he1
    by_cases h3 : most < 0
    all_goals
      go_enter Tryd.func66, Tryd.ntmps66
      go_wp2_with (first | (go_at_call 38; refine HC.out.mono ?_; rintro r w1 ⟨rfl, ha, hf⟩) | (go_at_call 56; refine (fail_later b _ _ _ _ ha he').mono ?_; rintro r w2 ⟨rfl, rfl⟩) | (go_at_call 55; refine (ready_no b _ _ _ ha he').mono ?_; rintro r w3 ⟨rfl, rfl⟩))
      go_ret
      exact InP_mk (by rw [HQ.out]; rfl) (by rw [HQ.out]) ha hf

theorem rText_len (s : List UInt8) (e : Int) : (Oct.rText s e).2.1.length ≤ s.length ∧ (Oct.rText s e).1.length ≤ 65536 := by
  have h1 := rSize_len 65536 s e
  have h2 := (rSize_in 65536 s e).2.1
  unfold Oct.rText
  split
  · split
    · exact ⟨h1, by simp⟩
    · simp; omega
  · exact ⟨h1, by simp⟩

set_option maxRecDepth 100000 in
set_option maxHeartbeats 400000 in
theorem in_text (b : Nat) (s : List UInt8) (e : Int) (w : World) (h : InAt w b s e) (hl : s.length ≤ 281474976710656) :
    Calls Tryd.prog 58 #[.pointer (some ⟨b, 0, none⟩)] w (InP b w (.string ⟨(Oct.rText s e).1.toArray⟩) (Oct.rText s e).2) := by
  by_cases he : e = 0
  · subst he
    have HC := hid (fun w (h : InAt w b s 0) => in_size b 65536 s 0 w h hl)
    have hq : Oct.rText s 0 = if (Oct.rSize 65536 s 0).2.2 = 0 then
      (if (Oct.rSize 65536 s 0).2.1.length < (Oct.rSize 65536 s 0).1.toNat then ([], (Oct.rSize 65536 s 0).2.1, 3)
       else ((Oct.rSize 65536 s 0).2.1.take (Oct.rSize 65536 s 0).1.toNat, (Oct.rSize 65536 s 0).2.1.drop (Oct.rSize 65536 s 0).1.toNat, 0))
      else ([], (Oct.rSize 65536 s 0).2.1, (Oct.rSize 65536 s 0).2.2) := rfl
    have hn := rSize_in 65536 s 0
    have hsl := rSize_len 65536 s 0
    obtain ⟨⟨n, s1, e1⟩, hx⟩ : ∃ x, Oct.rSize 65536 s 0 = x := ⟨_, rfl⟩
    rw [hx] at hq HC hn hsl
    clear hx
    simp only at hq HC hn hsl
    obtain ⟨hn1, hn2, hn3, -⟩ := hn
    by_cases he1 : e1 = 0
    · subst he1
      clear hn3
      rw [if_pos rfl] at hq
      obtain ⟨m, rfl⟩ := Int.eq_ofNat_of_zero_le hn1
      rw [Int.toNat_natCast] at hq
      by_cases h1 : s1.length < m
      · rw [if_pos h1] at hq
        have HQ := hid hq
        clear hq
        go_enter Tryd.func58, Tryd.ntmps58
        go_wp2_with fail
        refine (ready_yes b _ _ h).mono ?_
        rintro r w1 ⟨rfl, rfl⟩
        go_wp2_with fail
        refine (HC.out _ h).mono ?_
        rintro r w2 ⟨rfl, ha, hf⟩
        have k0 := ha.c0
        go_wp2_with fail
        refine (ready_yes b _ _ ha).mono ?_
        rintro r w3 ⟨rfl, rfl⟩
        go_wp2_with (go_at_call 56; refine (fail_first b _ _ _ ha).mono ?_; rintro r w4 ⟨rfl, hb, hg⟩)
        go_ret
        exact InP_mk (by rw [HQ.out]; rfl) (by rw [HQ.out]) hb (hf.then_ hg)
      · rw [if_neg h1] at hq
        have HQ := hid hq
        have h1' : m ≤ s1.length := by omega
        have htk : List.take (s1.length - m) (List.drop m s1) = List.drop m s1 := List.take_of_length_le (by simp)
        clear hq h1
        go_enter Tryd.func58, Tryd.ntmps58
        go_wp2_with fail
        refine (ready_yes b _ _ h).mono ?_
        rintro r w1 ⟨rfl, rfl⟩
        go_wp2_with fail
        refine (HC.out _ h).mono ?_
        rintro r w2 ⟨rfl, ha, hf⟩
        have k0 := ha.c0
        have k2 := ha.f
        go_wp2_with fail
        refine (ready_yes b _ _ ha).mono ?_
        rintro r w3 ⟨rfl, rfl⟩
        go_wp2_with fail
        go_ret
        exact InP_mk (by rw [HQ.out]; rfl) (by rw [HQ.out]) ha.setS (hf.then_ frmOne)
    · rw [if_neg he1] at hq
      have HQ := hid hq
      have he' : (e1 == 0) = false := by simpa using he1
      clear hq hn3 he1
      go_enter Tryd.func58, Tryd.ntmps58
      go_wp2_with fail
      refine (ready_yes b _ _ h).mono ?_
      rintro r w1 ⟨rfl, rfl⟩
      go_wp2_with fail
      refine (HC.out _ h).mono ?_
      rintro r w2 ⟨rfl, ha, hf⟩
      go_wp2_with fail
      refine (ready_no b _ _ _ ha he').mono ?_
      rintro r w3 ⟨rfl, rfl⟩
      go_wp2_with fail
      go_ret
      exact InP_mk (by rw [HQ.out]; rfl) (by rw [HQ.out]) ha hf
  · have HQ : Hid (Oct.rText s e = ([], s, e)) := by
      show _ = _
      have hs : Oct.rSize 65536 s e = (0, s, e) := if_neg he
      unfold Oct.rText
      rw [hs]
      exact if_neg he
    have he' : (e == 0) = false := by simpa using he
    clear he
    go_enter Tryd.func58, Tryd.ntmps58
    go_wp2_with (go_at_call 55; refine (ready_no b _ _ _ h he').mono ?_; rintro r w3 ⟨rfl, rfl⟩)
    go_ret
    exact InP_mk (by rw [HQ.out]; rfl) (by rw [HQ.out]) h (Frm.refl _ _)

theorem in_text_nil (w : World) :
    Calls Tryd.prog 58 #[.pointer none] w fun r w' => r = .returned (.string ⟨([] : List UInt8).toArray⟩) ∧ w = w' := by
  go_enter Tryd.func58, Tryd.ntmps58
  go_wp2_with (go_at_call 55; refine (ready_nil _).mono ?_; rintro r w1 ⟨rfl, rfl⟩)
  go_ret
  exact ⟨rfl, rfl⟩
end Go.Proofs.YtaejcejfpcjifaaDoor

namespace Go.Proofs.YtaejcejfpcjifaaDoor
open Go.RowKit

theorem info_int : (Tryd.prog.info? 3).map (fun i => (i.zero, i.size, i.bytes)) = some (some (.int .i64 0), 1, 8) := by kernel_rfl
theorem info_string : (Tryd.prog.info? 9).map (fun i => (i.zero, i.size, i.bytes)) = some (some (.string ByteArray.empty), 1, 16) := by kernel_rfl

/-- A list was read: its cells lie in new memory. -/
def ListP (el : TypeId) (b : Nat) (w : World) (vs : List Value) (x : List UInt8 × Int) (r : Ending) (w' : World) : Prop :=
  ∃ v, r = .returned v ∧ w'.ownsRow w.heap.size el 1 v vs.length vs ∧ InAt w' b x.1 x.2 ∧ Frm (One b) w w'
theorem ListP_mk {α : Type} {f : α → Value} {el : TypeId} {b : Nat} {w : World} {v v' : Value} {x : List α × List UInt8 × Int} {l : List α} {s : List UInt8} {e : Int} {w' : World} (hv : v' = v) (hx : x = (l, s, e))
    (hown : w'.ownsRow w.heap.size el 1 v l.length (l.map f)) (ha : InAt w' b s e) (hf : Frm (One b) w w') : ListP el b w (x.1.map f) x.2 (.returned v') w' := by
  subst hv hx
  exact ⟨_, rfl, by simpa using hown, ha, hf⟩

end Go.Proofs.YtaejcejfpcjifaaDoor

namespace Go.Proofs.YtaejcejfpcjifaaDoor

theorem enc_some {n : Int} (h : (Oct.enc n).isEmpty = false) : -9007199254740992 ≤ n ∧ n ≤ 9007199254740992 := by
  have h1 : ¬ (n < -9007199254740992 ∨ 9007199254740992 < n) := fun hh => by rw [Oct.enc_out hh] at h; simp at h
  omega
theorem enc_empty (n : Int) : (Oct.enc n).isEmpty = !(decide (-9007199254740992 ≤ n) && decide (n ≤ 9007199254740992)) := by
  by_cases h : -9007199254740992 ≤ n ∧ n ≤ 9007199254740992
  · have := Oct.enc_ne h.1 h.2
    rw [decide_eq_true h.1, decide_eq_true h.2]
    simpa using this
  · rw [Oct.enc_out (by omega)]
    by_cases h1 : -9007199254740992 ≤ n
    · have h2 : ¬ n ≤ 9007199254740992 := fun h2 => h ⟨h1, h2⟩
      simp [h1, h2]
    · simp [h1]
theorem rInt_enc {n : Int} (h : (Oct.enc n).isEmpty = false) (r : List UInt8) : Oct.rInt (Oct.enc n ++ r) 0 = (n, r, 0) := by
  have h1 := enc_some h
  rw [rInt_ok (Oct.dec_enc n h1.1 h1.2 r)]
  simp
theorem rSize_enc {most : Int} {n : Nat} (h1 : (n : Int) ≤ most) (h2 : n ≤ 65536) (r : List UInt8) : Oct.rSize most (Oct.enc n ++ r) 0 = ((n : Int), r, 0) := by
  have he : (Oct.enc (n : Int)).isEmpty = false := by
    have := Oct.enc_ne (n := (n : Int)) (by omega) (by omega)
    simpa using this
  rw [rSize_eq, rInt_enc he]
  simp only [if_true]
  rw [if_neg (by omega), if_neg (by omega)]
theorem rText_text {s : List UInt8} (h : s.length ≤ 65536) (r : List UInt8) : Oct.rText (Oct.text s ++ r) 0 = (s, r, 0) := by
  have e : Oct.text s ++ r = Oct.enc s.length ++ (s ++ r) := by
    unfold Oct.text
    rw [if_neg (by omega), List.append_assoc]
  rw [e]
  unfold Oct.rText
  rw [rSize_enc (by omega) h]
  simp
theorem nInts_ints : ∀ (zs acc : List Int) (r : List UInt8), Oct.badInts zs = false → Oct.nInts zs.length (Oct.ints zs ++ r) acc = (acc ++ zs, r, 0)
  | [], acc, r, _ => by simp [Oct.nInts, Oct.ints]
  | z :: zs, acc, r, h => by
    simp only [Oct.badInts, List.any_cons, Bool.or_eq_false_iff] at h
    have e : Oct.ints (z :: zs) ++ r = Oct.enc z ++ (Oct.ints zs ++ r) := by simp [Oct.ints]
    rw [e, List.length_cons, Oct.nInts, rInt_enc h.1]
    simp only [if_true]
    rw [nInts_ints zs _ r h.2, List.append_assoc]
    rfl
theorem nTexts_texts : ∀ (ss acc : List (List UInt8)) (r : List UInt8), Oct.badTexts ss = false → Oct.nTexts ss.length (Oct.texts ss ++ r) acc = (acc ++ ss, r, 0)
  | [], acc, r, _ => by simp [Oct.nTexts, Oct.texts]
  | z :: zs, acc, r, h => by
    simp only [Oct.badTexts, List.any_cons, Bool.or_eq_false_iff] at h
    have e : Oct.texts (z :: zs) ++ r = Oct.text z ++ (Oct.texts zs ++ r) := by simp [Oct.texts]
    have hz : z.length ≤ 65536 := by
      have := of_decide_eq_false h.1
      omega
    rw [e, List.length_cons, Oct.nTexts, rText_text hz]
    simp only [if_true]
    rw [nTexts_texts zs _ r h.2, List.append_assoc]
    rfl
theorem rBool_flag (b : Bool) (r : List UInt8) : Oct.rBool (Oct.flag b ++ r) 0 = (b, r, 0) := by
  cases b <;> simp [Oct.rBool, Oct.flag]
theorem rInts_list {zs : List Int} {most : Int} (h1 : (zs.length : Int) ≤ most) (h2 : zs.length ≤ 65536) (hb : Oct.badInts zs = false) (r : List UInt8) : Oct.rInts most (Oct.enc zs.length ++ Oct.ints zs ++ r) 0 = (zs, r, 0) := by
  rw [List.append_assoc]
  unfold Oct.rInts
  rw [rSize_enc h1 h2]
  simp only [if_true, Int.toNat_natCast]
  rw [nInts_ints zs [] r hb]
  rfl
theorem rTexts_list {ss : List (List UInt8)} {most : Int} (h1 : (ss.length : Int) ≤ most) (h2 : ss.length ≤ 65536) (hb : Oct.badTexts ss = false) (r : List UInt8) : Oct.rTexts most (Oct.enc ss.length ++ Oct.texts ss ++ r) 0 = (ss, r, 0) := by
  rw [List.append_assoc]
  unfold Oct.rTexts
  rw [rSize_enc h1 h2]
  simp only [if_true, Int.toNat_natCast]
  rw [nTexts_texts ss [] r hb]
  rfl

theorem rInt_inv {s s' : List UInt8} {e n : Int} (h : Oct.rInt s e = (n, s', 0)) : e = 0 ∧ s = Oct.enc n ++ s' ∧ (Oct.enc n).isEmpty = false := by
  by_cases he : e = 0
  · subst he
    obtain ⟨⟨m, k, e1⟩, hd⟩ : ∃ x, Oct.dec s = x := ⟨_, rfl⟩
    by_cases h1 : e1 = 0
    · subst h1
      rw [rInt_ok hd] at h
      simp only [Prod.mk.injEq, and_true] at h
      obtain ⟨rfl, rfl⟩ := h
      obtain ⟨h2, h3, h4, -, -, -⟩ := Oct.dec_ok hd
      refine ⟨rfl, by rw [h4, List.take_append_drop], ?_⟩
      have := Oct.enc_ne h2 h3
      simpa using this
    · rw [rInt_er hd h1] at h
      simp only [Prod.mk.injEq] at h
      exact absurd h.2.2 h1
  · rw [rInt_no he] at h
    simp only [Prod.mk.injEq] at h
    exact absurd h.2.2 he
theorem rSize_inv {most : Int} {s s' : List UInt8} {e n : Int} (h : Oct.rSize most s e = (n, s', 0)) : e = 0 ∧ 0 ≤ n ∧ n ≤ most ∧ n ≤ 65536 ∧ s = Oct.enc n ++ s' := by
  rw [rSize_eq] at h
  split at h
  · rename_i h1
    split at h
    · simp at h
    · split at h
      · simp at h
      · rename_i h2 h3
        obtain ⟨a, b, -⟩ := rInt_inv h
        have hf : (Oct.rInt s e).1 = n := by rw [h]
        rw [hf] at h2 h3
        exact ⟨a, by omega, by omega, by omega, b⟩
  · rename_i h1
    simp only [Prod.mk.injEq] at h
    exact absurd h.2.2 h1
theorem rText_inv {s s' t : List UInt8} {e : Int} (h : Oct.rText s e = (t, s', 0)) : e = 0 ∧ s = Oct.text t ++ s' ∧ t.length ≤ 65536 := by
  unfold Oct.rText at h
  obtain ⟨⟨n, s1, e1⟩, hr⟩ : ∃ x, Oct.rSize 65536 s e = x := ⟨_, rfl⟩
  rw [hr] at h
  simp only at h
  split at h
  · rename_i h1
    subst h1
    obtain ⟨a, b, -, c, d⟩ := rSize_inv hr
    split at h
    · simp at h
    · simp only [Prod.mk.injEq, and_true] at h
      obtain ⟨rfl, rfl⟩ := h
      have hl : (s1.take n.toNat).length = n.toNat := by rw [List.length_take]; omega
      refine ⟨a, ?_, by omega⟩
      unfold Oct.text
      rw [if_neg (by omega), hl, show ((n.toNat : Nat) : Int) = n by omega, List.append_assoc, List.take_append_drop, d]
  · rename_i h1
    simp only [Prod.mk.injEq] at h
    exact absurd h.2.2 h1
theorem nTexts_inv : ∀ (n : Nat) (s s' : List UInt8) (acc res : List (List UInt8)), Oct.nTexts n s acc = (res, s', 0) → ∃ ss, res = acc ++ ss ∧ ss.length = n ∧ s = Oct.texts ss ++ s' ∧ ∀ t ∈ ss, t.length ≤ 65536
  | 0, s, s', acc, res, h => by
    simp only [Oct.nTexts, Prod.mk.injEq, and_true] at h
    exact ⟨[], by simp [h.1], rfl, by simp [Oct.texts, h.2], by simp⟩
  | n + 1, s, s', acc, res, h => by
    rw [Oct.nTexts] at h
    obtain ⟨⟨t, s1, e1⟩, hr⟩ : ∃ x, Oct.rText s 0 = x := ⟨_, rfl⟩
    rw [hr] at h
    simp only at h
    split at h
    · rename_i h1
      subst h1
      obtain ⟨-, a, b⟩ := rText_inv hr
      obtain ⟨ss, rfl, h2, rfl, h4⟩ := nTexts_inv n s1 s' _ res h
      refine ⟨t :: ss, by simp, by simp [h2], ?_, ?_⟩
      · rw [a]; simp [Oct.texts]
      · intro u hu
        rcases List.mem_cons.1 hu with rfl | hu
        · exact b
        · exact h4 u hu
    · rename_i h1
      simp only [Prod.mk.injEq] at h
      exact absurd h.2.2 h1
theorem rTexts_inv {most : Int} {s s' : List UInt8} {e : Int} {ss : List (List UInt8)} (h : Oct.rTexts most s e = (ss, s', 0)) : e = 0 ∧ s = Oct.enc ss.length ++ Oct.texts ss ++ s' ∧ (ss.length : Int) ≤ most ∧ ∀ t ∈ ss, t.length ≤ 65536 := by
  unfold Oct.rTexts at h
  obtain ⟨⟨n, s1, e1⟩, hr⟩ : ∃ x, Oct.rSize most s e = x := ⟨_, rfl⟩
  rw [hr] at h
  simp only at h
  split at h
  · rename_i h1
    subst h1
    obtain ⟨a, b, b2, c, d⟩ := rSize_inv hr
    obtain ⟨ss', e, h2, h3, h4⟩ := nTexts_inv _ _ _ _ _ h
    rw [List.nil_append] at e
    subst e
    refine ⟨a, ?_, by omega, h4⟩
    rw [d, h3, h2, show ((n.toNat : Nat) : Int) = n by omega, List.append_assoc]
  · rename_i h1
    simp only [Prod.mk.injEq] at h
    exact absurd h.2.2 h1
end Go.Proofs.YtaejcejfpcjifaaDoor
