/- The walks of octets.Out's methods. The walks of octets.Out's Bytes, Ints and Texts. -/
import Derived.Test.YtebocnpbiiejmaaDoorOctAll
namespace Go.Proofs.YtebocnpbiiejmaaDoor
open Go.RowKit

/-- An Out lies at block b from offset o on: its row is v, its bytes are l. -/
structure OutAt (w : World) (b o : Nat) (v : Value) (l : List UInt8) (bad : Bool) : Prop where
  c0 : w.cell? ⟨b, o, none⟩ = some v
  c1 : w.cell? ⟨b, o + 1, none⟩ = some (.bool bad)
  f : ∀ j, w.frozen? ⟨b, j, none⟩ = false
  row : w.ownsRow 0 5 1 v l.length (bytesV l)
  apart : v.ownBlock ≠ some b

def OutS (b : Nat) (v : Value) (k : Nat) : Prop := k = b ∨ v.ownBlock = some k
structure OutPost (b o : Nat) (w : World) (v : Value) (l : List UInt8) (bad : Bool) (v' : Value) (w' : World) : Prop where
  at_ : OutAt w' b o v' l bad
  frm : Frm (OutS b v) w w'
  own : v'.ownBlock = v.ownBlock ∨ ∃ k, v'.ownBlock = some k ∧ w.heap.size ≤ k
  rest : ∀ j, j ≠ o → j ≠ o + 1 → w'.cell? ⟨b, j, none⟩ = w.cell? ⟨b, j, none⟩

def OutP (b o : Nat) (w : World) (v : Value) (l : List UInt8) (bad : Bool) (e : Ending) (w' : World) : Prop :=
  e = .returned (.tuple #[]) ∧ ∃ v', OutPost b o w v l bad v' w'

/-- What an append and the two stores behind it leave. -/
theorem out_done {b o : Nat} {w w1 : World} {v v1 : Value} {l l1 : List UInt8} {bad bad1 : Bool} (h : OutAt w b o v l bad) (hf : Frm (Own v) w w1)
    (hown : w1.ownsRow 0 5 1 v1 l1.length (bytesV l1)) (hv : v1.ownBlock = v.ownBlock ∨ v1.ownBlock = some w.heap.size) :
    OutPost b o w v l1 bad1 v1 ((w1.setCell ⟨b, o, none⟩ v1).setCell ⟨b, o + 1, none⟩ (.bool bad1)) := by
  have hb : b < w.heap.size := World.block_lt_of_cell? w _ h.c0
  have hap : ¬ Own v b := h.apart
  have hap1 : v1.ownBlock ≠ some b := by
    rcases hv with hv | hv
    · rw [hv]; exact h.apart
    · rw [hv]; simp; omega
  have k0 : w1.cell? ⟨b, o, none⟩ = some v := (hf.cell (p := ⟨b, o, none⟩) hb hap).trans h.c0
  have k1 : w1.cell? ⟨b, o + 1, none⟩ = some (.bool bad) := (hf.cell (p := ⟨b, o + 1, none⟩) hb hap).trans h.c1
  have ne1 : (⟨b, o + 1, none⟩ : Addr) ≠ ⟨b, o, none⟩ := by simp
  have fr : Frm (One b) w1 ((w1.setCell ⟨b, o, none⟩ v1).setCell ⟨b, o + 1, none⟩ (.bool bad1)) := Frm.setCell (p := ⟨b, o + 1, none⟩) (Frm.setCell (p := ⟨b, o, none⟩) (Frm.refl (One b) w1) (fun _ => rfl) _) (fun _ => rfl) _
  refine ⟨⟨?_, ?_, fun j => ?_, fr.row hown (fun k hk e => ?_), hap1⟩, hf.trans fr (fun i _ h => Or.inr h) (fun i _ h => Or.inl h), ?_, fun j j0 j1 => ?_⟩
  · rw [World.cell?_setCell_other _ _ _ _ ne1]
    exact World.cell?_setCell_same _ _ _ k0
  · exact World.cell?_setCell_same _ _ _ (by rw [World.cell?_setCell_other _ _ _ _ ne1.symm]; exact k1)
  · rw [World.frozen?_setCell, World.frozen?_setCell, hf.frozen (p := ⟨b, j, none⟩) hb hap]
    exact h.f j
  · exact hap1 (by rw [hk, e])
  · rcases hv with hv | hv
    · exact Or.inl hv
    · exact Or.inr ⟨_, hv, Nat.le_refl _⟩
  · rw [World.cell?_setCell_other _ _ _ _ (fun e => j1 (congrArg Addr.off e).symm), World.cell?_setCell_other _ _ _ _ (fun e => j0 (congrArg Addr.off e).symm)]
    exact hf.cell (p := ⟨b, j, none⟩) hb hap

/-- One step behind another. -/
theorem OutPost.trans {b o : Nat} {w w1 w2 : World} {v v1 v2 : Value} {l1 l2 : List UInt8} {bad1 bad2 : Bool} (h : OutPost b o w v l1 bad1 v1 w1) (k : OutPost b o w1 v1 l2 bad2 v2 w2) :
    OutPost b o w v l2 bad2 v2 w2 := by
  refine ⟨k.at_, h.frm.trans k.frm (fun _ _ h => h) (fun i hi hs => ?_), ?_, fun j j0 j1 => (k.rest j j0 j1).trans (h.rest j j0 j1)⟩
  · rcases hs with rfl | hs
    · exact Or.inl rfl
    · rcases h.own with e | ⟨k, e, hk⟩
      · exact Or.inr (e ▸ hs)
      · rw [e] at hs; cases hs; omega
  · rcases k.own with e | ⟨k, e, hk⟩
    · rcases h.own with e' | ⟨k', e', hk'⟩
      · exact Or.inl (e.trans e')
      · exact Or.inr ⟨k', e.trans e', hk'⟩
    · exact Or.inr ⟨k, e, Nat.le_trans h.frm.size hk⟩
theorem OutAt.frm {b o : Nat} {w w1 : World} {v : Value} {l : List UInt8} {bad : Bool} (h : OutAt w b o v l bad) {S : Nat → Prop} (hf : Frm S w w1) (hS : ¬ S b) (hS2 : ∀ k, v.ownBlock = some k → ¬ S k) : OutAt w1 b o v l bad := by
  have hb : b < w.heap.size := World.block_lt_of_cell? w _ h.c0
  exact ⟨(hf.cell (p := ⟨b, o, none⟩) hb hS).trans h.c0, (hf.cell (p := ⟨b, o + 1, none⟩) hb hS).trans h.c1, fun j => (hf.frozen (p := ⟨b, j, none⟩) hb hS).trans (h.f j), hf.row h.row hS2, h.apart⟩
theorem OutPost.refl {b o : Nat} {w : World} {v : Value} {l : List UInt8} {bad : Bool} (h : OutAt w b o v l bad) : OutPost b o w v l bad v w := ⟨h, Frm.refl _ _, Or.inl rfl, fun _ _ _ => rfl⟩
/-- Ahead of a step, a step that leaves all that was there. -/
theorem OutPost.behind {b o : Nat} {w w1 w2 : World} {v v2 : Value} {l l2 : List UInt8} {bad bad2 : Bool} (h : OutAt w b o v l bad) (hf : Frm No w w1) (k : OutPost b o w1 v l2 bad2 v2 w2) : OutPost b o w v l2 bad2 v2 w2 := by
  have hb : b < w.heap.size := World.block_lt_of_cell? w _ h.c0
  refine ⟨k.at_, hf.trans k.frm (fun _ _ h => h.elim) (fun _ _ h => h), ?_, fun j j0 j1 => (k.rest j j0 j1).trans (hf.cell (p := ⟨b, j, none⟩) hb (fun h => h))⟩
  rcases k.own with e | ⟨k, e, hk⟩
  · exact Or.inl e
  · exact Or.inr ⟨k, e, Nat.le_trans hf.size hk⟩

set_option maxRecDepth 100000 in
set_option maxHeartbeats 400000 in
/-- What every writing method comes to. -/
theorem out_put (b o : Nat) (v : Value) (l s : List UInt8) (bad ok : Bool) (w : World) (h : OutAt w b o v l bad) (hl : l.length + s.length ≤ 140737488355328) :
    Calls Tryd.prog 59 #[.pointer (some ⟨b, o, none⟩), .string ⟨s.toArray⟩, .bool ok] w (OutP b o w v (l ++ s) (bad || !ok)) := by
  have h0 := h.c0
  have h1 := h.c1
  have h2 := h.f
  obtain ⟨i0, hi, hz0, hz1, hz2⟩ := info_parts info_u8
  have hb : b < w.heap.size := World.block_lt_of_cell? w _ h0
  have hb1 : (⟨b, o + 1, none⟩ : Addr).block < w.heap.size := hb
  have hap : ¬ Own v b := h.apart
  cases bad <;> cases ok
  · go_enter Tryd.func59, Tryd.ntmps59
    go_wp2_with (at_builtin; refine wpList_append_str _ rfl _ _ 54 9 rfl 0 5 i0 Tryd.underlying54 Tryd.underlying9 hi hz0 hz1 hz2 v l.length l rfl h.row s rfl hl (by omega) ?_; intro v1 w1 hown hf hv; obtain ⟨ao, cp, rfl⟩ := ownsRow_shape hown; have k0 := (hf.cell hb hap).trans h0; have k1 := (hf.cell hb1 hap).trans h1; have kf : ∀ j, w1.frozen? ⟨b, j, none⟩ = false := fun j => (hf.frozen (p := ⟨b, j, none⟩) hb hap).trans (h2 j))
    go_end0
    exact ⟨rfl, _, out_done h hf (by rw [List.length_append]; exact hown) hv⟩
  · go_enter Tryd.func59, Tryd.ntmps59
    go_wp2_with (at_builtin; refine wpList_append_str _ rfl _ _ 54 9 rfl 0 5 i0 Tryd.underlying54 Tryd.underlying9 hi hz0 hz1 hz2 v l.length l rfl h.row s rfl hl (by omega) ?_; intro v1 w1 hown hf hv; obtain ⟨ao, cp, rfl⟩ := ownsRow_shape hown; have k0 := (hf.cell hb hap).trans h0; have k1 := (hf.cell hb1 hap).trans h1; have kf : ∀ j, w1.frozen? ⟨b, j, none⟩ = false := fun j => (hf.frozen (p := ⟨b, j, none⟩) hb hap).trans (h2 j))
    go_end0
    exact ⟨rfl, _, out_done h hf (by rw [List.length_append]; exact hown) hv⟩
  · go_enter Tryd.func59, Tryd.ntmps59
    go_wp2_with (at_builtin; refine wpList_append_str _ rfl _ _ 54 9 rfl 0 5 i0 Tryd.underlying54 Tryd.underlying9 hi hz0 hz1 hz2 v l.length l rfl h.row s rfl hl (by omega) ?_; intro v1 w1 hown hf hv; obtain ⟨ao, cp, rfl⟩ := ownsRow_shape hown; have k0 := (hf.cell hb hap).trans h0; have k1 := (hf.cell hb1 hap).trans h1; have kf : ∀ j, w1.frozen? ⟨b, j, none⟩ = false := fun j => (hf.frozen (p := ⟨b, j, none⟩) hb hap).trans (h2 j))
    go_end0
    exact ⟨rfl, _, out_done h hf (by rw [List.length_append]; exact hown) hv⟩
  · go_enter Tryd.func59, Tryd.ntmps59
    go_wp2_with (at_builtin; refine wpList_append_str _ rfl _ _ 54 9 rfl 0 5 i0 Tryd.underlying54 Tryd.underlying9 hi hz0 hz1 hz2 v l.length l rfl h.row s rfl hl (by omega) ?_; intro v1 w1 hown hf hv; obtain ⟨ao, cp, rfl⟩ := ownsRow_shape hown; have k0 := (hf.cell hb hap).trans h0; have k1 := (hf.cell hb1 hap).trans h1; have kf : ∀ j, w1.frozen? ⟨b, j, none⟩ = false := fun j => (hf.frozen (p := ⟨b, j, none⟩) hb hap).trans (h2 j))
    go_end0
    exact ⟨rfl, _, out_done h hf (by rw [List.length_append]; exact hown) hv⟩

theorem out_put_nil (s : List UInt8) (ok : Bool) (w : World) :
    Calls Tryd.prog 59 #[.pointer none, .string ⟨s.toArray⟩, .bool ok] w fun e w' => e = .returned (.tuple #[]) ∧ w = w' := by
  go_enter Tryd.func59, Tryd.ntmps59
  go_wp2_with fail
  refine bodyPost_ret (results_none rfl _ _ _) rfl ?_
  exact ⟨rfl, rfl⟩

set_option maxRecDepth 100000 in
theorem out_int (b o : Nat) (v : Value) (l : List UInt8) (bad : Bool) (n : Int) (w : World) (h : OutAt w b o v l bad) (hl : l.length ≤ 70368744177664) :
    Calls Tryd.prog 27 #[.pointer (some ⟨b, o, none⟩), .int .i64 n] w (OutP b o w v (l ++ Oct.enc n) (bad || (Oct.enc n).isEmpty)) := by
  have hlen := Oct.enc_le n
  go_enter Tryd.func27, Tryd.ntmps27
  go_wp2_with (first | (go_at_call 55; refine (put_any _ _).mono ?_; rintro e w1 ⟨rfl, hf⟩) | (go_at_call 59; refine (out_put b o v l _ bad _ _ (h.frm hf (fun h => h) (fun _ _ h => h)) (by omega)).mono ?_; rintro e w2 ⟨rfl, v2, hp⟩))
  go_end0
  exact ⟨rfl, v2, by have := OutPost.behind h hf hp; simpa using this⟩

theorem out_int_nil (n : Int) (w : World) :
    Calls Tryd.prog 27 #[.pointer none, .int .i64 n] w fun e w' => e = .returned (.tuple #[]) ∧ Frm No w w' := by
  go_enter Tryd.func27, Tryd.ntmps27
  go_wp2_with (first | (go_at_call 55; refine (put_any _ _).mono ?_; rintro e w1 ⟨rfl, hf⟩) | (go_at_call 59; refine (out_put_nil _ _ _).mono ?_; rintro e w2 ⟨rfl, rfl⟩))
  go_end0
  exact ⟨rfl, hf⟩

/-- A yes or no as a byte. -/
def Oct.flag (x : Bool) : List UInt8 := if x then [1] else [0]

/-- The bytes of a text. -/
def Oct.text (s : List UInt8) : List UInt8 := if 65536 < s.length then [] else Oct.enc s.length ++ s

/-- A new Out. -/
theorem OutAt_new (w : World) (T : TypeId) : OutAt (w.alloc (.cells #[.slice none 0 0, .bool false] T)) w.heap.size 0 (.slice none 0 0) [] false :=
  ⟨by rw [World.cell?_alloc_at _ _ _ _ rfl]; rfl, by rw [World.cell?_alloc_at _ _ _ _ rfl]; rfl, fun j => World.frozen?_alloc_at _ _ _ _ rfl, World.ownsRow_nil _ _ _ _, by simp [Value.ownBlock]⟩
/-- What an Out of the call's own leaves of what was there. -/
theorem OutPost.no {b o : Nat} {w0 w w' : World} {v v' : Value} {l : List UInt8} {bad : Bool} (h : OutPost b o w v l bad v' w') (hf : Frm No w0 w) (hb : w0.heap.size ≤ b) (hv : ∀ k, v.ownBlock = some k → w0.heap.size ≤ k) : Frm No w0 w' :=
  hf.trans h.frm (fun _ _ h => h) (fun i hi hs => by
    rcases hs with rfl | hs
    · omega
    · have := hv i hs; omega)
theorem OutPost.ge {b o : Nat} {w0 w w' : World} {v v' : Value} {l : List UInt8} {bad : Bool} (h : OutPost b o w v l bad v' w') (hf : w0.heap.size ≤ w.heap.size) (hv : ∀ k, v.ownBlock = some k → w0.heap.size ≤ k) : ∀ k, v'.ownBlock = some k → w0.heap.size ≤ k := by
  intro k hk
  rcases h.own with e | ⟨g, e, hg⟩
  · exact hv k (e ▸ hk)
  · rw [e] at hk; cases hk; omega

end Go.Proofs.YtebocnpbiiejmaaDoor

namespace Go.Proofs.YtebocnpbiiejmaaDoor
open Go.RowKit

set_option maxRecDepth 100000 in
/-- What an Out hands back. -/
theorem out_bytes (b o : Nat) (v : Value) (l : List UInt8) (bad : Bool) (w : World) (h : OutAt w b o v l bad) :
    Calls Tryd.prog 28 #[.pointer (some ⟨b, o, none⟩)] w fun e w' => e = .returned (.tuple #[.string ⟨(if bad then [] else l).toArray⟩, .bool (!bad)]) ∧ w = w' := by
  have h0 := h.c0
  have h1 := h.c1
  have hcv := run_convert_own (P := Tryd.prog) Tryd.underlying54 Tryd.underlying5 Tryd.underlying9 h.row
  cases bad
  · go_enter Tryd.func28, Tryd.ntmps28
    go_wp2_with fail
    go_ret2
    exact ⟨rfl, rfl⟩
  · go_enter Tryd.func28, Tryd.ntmps28
    go_wp2_with fail
    go_ret2
    exact ⟨rfl, rfl⟩

set_option maxRecDepth 100000 in
theorem out_bytes_nil (w : World) :
    Calls Tryd.prog 28 #[.pointer none] w fun e w' => e = .returned (.tuple #[.string ⟨([] : List UInt8).toArray⟩, .bool false]) ∧ w = w' := by
  go_enter Tryd.func28, Tryd.ntmps28
  go_wp2_with fail
  go_ret2
  exact ⟨rfl, rfl⟩

def intsV (zs : List Int) : List Value := zs.map (Value.int .i64)
@[simp] theorem intsV_length (zs : List Int) : (intsV zs).length = zs.length := by simp [intsV]
def strsV (ss : List (List UInt8)) : List Value := ss.map fun s => Value.string ⟨s.toArray⟩
@[simp] theorem strsV_length (ss : List (List UInt8)) : (strsV ss).length = ss.length := by simp [strsV]

def Oct.ints (zs : List Int) : List UInt8 := zs.flatMap Oct.enc
def Oct.texts (ss : List (List UInt8)) : List UInt8 := ss.flatMap Oct.text
theorem Oct.ints_snoc (zs : List Int) (k : Nat) (h : k < zs.length) : Oct.ints (zs.take (k + 1)) = Oct.ints (zs.take k) ++ Oct.enc zs[k] := by
  rw [List.take_succ_eq_append_getElem h, Oct.ints, Oct.ints, List.flatMap_append]; rw [List.flatMap_cons, List.flatMap_nil, List.append_nil]
theorem Oct.texts_snoc (ss : List (List UInt8)) (k : Nat) (h : k < ss.length) : Oct.texts (ss.take (k + 1)) = Oct.texts (ss.take k) ++ Oct.text ss[k] := by
  rw [List.take_succ_eq_append_getElem h, Oct.texts, Oct.texts, List.flatMap_append]; rw [List.flatMap_cons, List.flatMap_nil, List.append_nil]
theorem Oct.ints_le (zs : List Int) : (Oct.ints zs).length ≤ 8 * zs.length := by
  induction zs with
  | nil => simp [Oct.ints]
  | cons z zs ih =>
    have := Oct.enc_le z
    simp only [Oct.ints, List.flatMap_cons, List.length_append, List.length_cons] at *
    omega
theorem Oct.text_le (s : List UInt8) : (Oct.text s).length ≤ 65544 := by
  unfold Oct.text
  split
  · simp
  · have := Oct.enc_le s.length
    simp; omega
theorem Oct.texts_le (ss : List (List UInt8)) : (Oct.texts ss).length ≤ 65544 * ss.length := by
  induction ss with
  | nil => simp [Oct.texts]
  | cons z zs ih =>
    have := Oct.text_le z
    simp only [Oct.texts, List.flatMap_cons, List.length_append, List.length_cons] at *
    omega

/-- Can numbers, texts not be written? -/
def Oct.badInts (zs : List Int) : Bool := zs.any fun z => (Oct.enc z).isEmpty
def Oct.badTexts (ss : List (List UInt8)) : Bool := ss.any fun s => decide (65536 < s.length)
theorem Oct.badInts_snoc (zs : List Int) (k : Nat) (h : k < zs.length) : Oct.badInts (zs.take (k + 1)) = (Oct.badInts (zs.take k) || (Oct.enc zs[k]).isEmpty) := by
  rw [List.take_succ_eq_append_getElem h, Oct.badInts, Oct.badInts, List.any_append]; rw [List.any_cons, List.any_nil, Bool.or_false]
theorem Oct.badTexts_snoc (ss : List (List UInt8)) (k : Nat) (h : k < ss.length) : Oct.badTexts (ss.take (k + 1)) = (Oct.badTexts (ss.take k) || decide (65536 < ss[k].length)) := by
  rw [List.take_succ_eq_append_getElem h, Oct.badTexts, Oct.badTexts, List.any_append]; rw [List.any_cons, List.any_nil, Bool.or_false]

end Go.Proofs.YtebocnpbiiejmaaDoor
