/- The walks of octets.In's methods. -/
import Derived.Test.YtekailaoanpcgaaOut2
namespace Go.Proofs.Ytekailaoanpcgaa
open Go.RowKit

/-! What reading does, in plain words: what is left, the first error (0: none). -/
namespace Oct
def rInt (s : List UInt8) (e : Int) : Int × List UInt8 × Int :=
  if e = 0 then (if (dec s).2.2 = 0 then ((dec s).1, s.drop (dec s).2.1, 0) else (0, s, (dec s).2.2)) else (0, s, e)
def rBool (s : List UInt8) (e : Int) : Bool × List UInt8 × Int :=
  if e = 0 then (match s with
    | [] => (false, s, 3)
    | c :: r => if 1 < c.toNat then (false, s, 2) else (decide (c.toNat = 1), r, 0)) else (false, s, e)
def rSize (most : Int) (s : List UInt8) (e : Int) : Int × List UInt8 × Int :=
  if e = 0 then
    (if (rInt s 0).2.2 = 0 then
      (if (rInt s 0).1 < 0 then (0, (rInt s 0).2.1, 2) else if most < (rInt s 0).1 ∨ 65536 < (rInt s 0).1 then (0, (rInt s 0).2.1, 6) else rInt s 0)
    else (0, (rInt s 0).2.1, (rInt s 0).2.2))
  else (0, s, e)
def rText (s : List UInt8) (e : Int) : List UInt8 × List UInt8 × Int :=
  if (rSize 65536 s e).2.2 = 0 then
    (if (rSize 65536 s e).2.1.length < (rSize 65536 s e).1.toNat then ([], (rSize 65536 s e).2.1, 3)
     else ((rSize 65536 s e).2.1.take (rSize 65536 s e).1.toNat, (rSize 65536 s e).2.1.drop (rSize 65536 s e).1.toNat, 0))
  else ([], (rSize 65536 s e).2.1, (rSize 65536 s e).2.2)
/-- So many numbers more. -/
def nInts : Nat → List UInt8 → List Int → List Int × List UInt8 × Int
  | 0, s, acc => (acc, s, 0)
  | n + 1, s, acc => if (rInt s 0).2.2 = 0 then nInts n (rInt s 0).2.1 (acc ++ [(rInt s 0).1]) else ([], (rInt s 0).2.1, (rInt s 0).2.2)
def nTexts : Nat → List UInt8 → List (List UInt8) → List (List UInt8) × List UInt8 × Int
  | 0, s, acc => (acc, s, 0)
  | n + 1, s, acc => if (rText s 0).2.2 = 0 then nTexts n (rText s 0).2.1 (acc ++ [(rText s 0).1]) else ([], (rText s 0).2.1, (rText s 0).2.2)
def rInts (most : Int) (s : List UInt8) (e : Int) : List Int × List UInt8 × Int :=
  if (rSize most s e).2.2 = 0 then nInts (rSize most s e).1.toNat (rSize most s e).2.1 [] else ([], (rSize most s e).2.1, (rSize most s e).2.2)
def rTexts (most : Int) (s : List UInt8) (e : Int) : List (List UInt8) × List UInt8 × Int :=
  if (rSize most s e).2.2 = 0 then nTexts (rSize most s e).1.toNat (rSize most s e).2.1 [] else ([], (rSize most s e).2.1, (rSize most s e).2.2)
def rEnd (s : List UInt8) (e : Int) : Int := if e = 0 then (if s = [] then 0 else 4) else e
end Oct

/-- An In lies at block b: what is left, the first error. -/
structure InAt (w : World) (b : Nat) (s : List UInt8) (e : Int) : Prop where
  c0 : w.cell? ⟨b, 0, none⟩ = some (.string ⟨s.toArray⟩)
  c1 : w.cell? ⟨b, 1, none⟩ = some (.int .i64 e)
  f : ∀ j, w.frozen? ⟨b, j, none⟩ = false

theorem InAt.lt {w : World} {b : Nat} {s : List UInt8} {e : Int} (h : InAt w b s e) : b < w.heap.size := World.block_lt_of_cell? w _ h.c0
theorem InAt.frm {w w1 : World} {b : Nat} {s : List UInt8} {e : Int} (h : InAt w b s e) {S : Nat → Prop} (hf : Frm S w w1) (hS : ¬ S b) : InAt w1 b s e :=
  ⟨(hf.cell (p := ⟨b, 0, none⟩) h.lt hS).trans h.c0, (hf.cell (p := ⟨b, 1, none⟩) h.lt hS).trans h.c1, fun j => (hf.frozen (p := ⟨b, j, none⟩) h.lt hS).trans (h.f j)⟩
theorem InAt.setE {w : World} {b : Nat} {s : List UInt8} {e e' : Int} (h : InAt w b s e) : InAt (w.setCell ⟨b, 1, none⟩ (.int .i64 e')) b s e' :=
  ⟨(World.cell?_setCell_other _ _ _ _ (by simp)).trans h.c0, World.cell?_setCell_same _ _ _ h.c1, fun j => (World.frozen?_setCell _ _ _ _).trans (h.f j)⟩
theorem InAt.setS {w : World} {b : Nat} {s s' : List UInt8} {e : Int} (h : InAt w b s e) : InAt (w.setCell ⟨b, 0, none⟩ (.string ⟨s'.toArray⟩)) b s' e :=
  ⟨World.cell?_setCell_same _ _ _ h.c0, (World.cell?_setCell_other _ _ _ _ (by simp)).trans h.c1, fun j => (World.frozen?_setCell _ _ _ _).trans (h.f j)⟩
theorem frmOne {w : World} {b j : Nat} {v : Value} : Frm (One b) w (w.setCell ⟨b, j, none⟩ v) := Frm.setCell (p := ⟨b, j, none⟩) (Frm.refl (One b) w) (fun _ => rfl) _

theorem get_at {l : List UInt8} {n : Int} {k : Nat} {e : Int} (hd : Oct.dec l = (n, k, e)) (w : World) (h : l.length ≤ 281474976710656) :
    Calls Try.prog 85 #[.string ⟨l.toArray⟩] w fun r w' => r = .returned (.tuple #[.int .i64 n, .int .i64 (k : Int), .int .i64 e]) ∧ Frm No w w' :=
  (get_any l w h).mono fun r w' ⟨hr, hf⟩ => ⟨by rw [hr, hd], hf⟩

theorem in_open (s : List UInt8) (w : World) :
    Calls Try.prog 39 #[.string ⟨s.toArray⟩] w fun r w' => ∃ b, r = .returned (.pointer (some ⟨b, 0, none⟩)) ∧ w.heap.size ≤ b ∧ InAt w' b s 0 ∧ Frm No w w' := by
  go_enter Try.func39, Try.ntmps39
  go_wp2_with fail
  go_ret
  exact ⟨_, rfl, Nat.le_refl _, ⟨by rw [World.cell?_alloc_at _ _ _ _ rfl]; rfl, by rw [World.cell?_alloc_at _ _ _ _ rfl]; rfl, fun j => World.frozen?_alloc_at _ _ _ _ rfl⟩, (Frm.refl _ _).alloc _⟩

theorem ready_yes (b : Nat) (s : List UInt8) (w : World) (h : InAt w b s 0) :
    Calls Try.prog 82 #[.pointer (some ⟨b, 0, none⟩)] w fun r w' => r = .returned (.bool true) ∧ w = w' := by
  have h1 := h.c1
  go_enter Try.func82, Try.ntmps82
  go_wp2_with fail
  go_ret
  exact ⟨rfl, rfl⟩
theorem ready_no (b : Nat) (s : List UInt8) (e : Int) (w : World) (h : InAt w b s e) (he : (e == 0) = false) :
    Calls Try.prog 82 #[.pointer (some ⟨b, 0, none⟩)] w fun r w' => r = .returned (.bool false) ∧ w = w' := by
  have h1 := h.c1
  go_enter Try.func82, Try.ntmps82
  go_wp2_with fail
  go_ret
  exact ⟨rfl, rfl⟩
theorem ready_nil (w : World) :
    Calls Try.prog 82 #[.pointer none] w fun r w' => r = .returned (.bool false) ∧ w = w' := by
  go_enter Try.func82, Try.ntmps82
  go_wp2_with fail
  go_ret
  exact ⟨rfl, rfl⟩
theorem fail_first (b : Nat) (s : List UInt8) (e : Int) (w : World) (h : InAt w b s 0) :
    Calls Try.prog 84 #[.pointer (some ⟨b, 0, none⟩), .int .i64 e] w fun r w' => r = .returned (.tuple #[]) ∧ InAt w' b s e ∧ Frm (One b) w w' := by
  have h1 := h.c1
  have h2 := h.f
  go_enter Try.func84, Try.ntmps84
  go_wp2_with fail
  go_end0
  exact ⟨rfl, h.setE, frmOne⟩
theorem fail_later (b : Nat) (s : List UInt8) (e e' : Int) (w : World) (h : InAt w b s e) (he : (e == 0) = false) :
    Calls Try.prog 84 #[.pointer (some ⟨b, 0, none⟩), .int .i64 e'] w fun r w' => r = .returned (.tuple #[]) ∧ w = w' := by
  have h1 := h.c1
  go_enter Try.func84, Try.ntmps84
  go_wp2_with fail
  go_end0
  exact ⟨rfl, rfl⟩
theorem in_err (b : Nat) (s : List UInt8) (e : Int) (w : World) (h : InAt w b s e) :
    Calls Try.prog 41 #[.pointer (some ⟨b, 0, none⟩)] w fun r w' => r = .returned (.int .i64 e) ∧ w = w' := by
  have h1 := h.c1
  go_enter Try.func41, Try.ntmps41
  go_wp2_with fail
  go_ret
  exact ⟨rfl, rfl⟩
theorem in_err_nil (w : World) :
    Calls Try.prog 41 #[.pointer none] w fun r w' => r = .returned (.int .i64 1) ∧ w = w' := by
  go_enter Try.func41, Try.ntmps41
  go_wp2_with fail
  go_ret
  exact ⟨rfl, rfl⟩
theorem in_end (b : Nat) (s : List UInt8) (e : Int) (w : World) (h : InAt w b s e) :
    Calls Try.prog 46 #[.pointer (some ⟨b, 0, none⟩)] w fun r w' => r = .returned (.int .i64 (Oct.rEnd s e)) ∧ w = w' := by
  have h0 := h.c0
  by_cases he : e = 0
  · subst he
    cases s with
    | nil =>
      go_enter Try.func46, Try.ntmps46
      go_wp2_with (go_at_call 41; refine (in_err b _ _ _ h).mono ?_; rintro r w1 ⟨rfl, rfl⟩)
      go_ret
      exact ⟨rfl, rfl⟩
    | cons c s =>
      go_enter Try.func46, Try.ntmps46
      go_wp2_with (go_at_call 41; refine (in_err b _ _ _ h).mono ?_; rintro r w1 ⟨rfl, rfl⟩)
      go_ret
      exact ⟨rfl, rfl⟩
  · have HE : Hid (Oct.rEnd s e = e) := if_neg he
    have he' : (e == 0) = false := by simpa using he
    clear he
    go_enter Try.func46, Try.ntmps46
    go_wp2_with (go_at_call 41; refine (in_err b _ _ _ h).mono ?_; rintro r w1 ⟨rfl, rfl⟩)
    go_ret
    exact ⟨by rw [HE.out]; rfl, rfl⟩
theorem in_end_nil (w : World) :
    Calls Try.prog 46 #[.pointer none] w fun r w' => r = .returned (.int .i64 1) ∧ w = w' := by
  go_enter Try.func46, Try.ntmps46
  go_wp2_with (go_at_call 41; refine (in_err_nil _).mono ?_; rintro r w1 ⟨rfl, rfl⟩)
  go_ret
  exact ⟨rfl, rfl⟩
end Go.Proofs.Ytekailaoanpcgaa
