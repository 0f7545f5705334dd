/- The walks of octets.Out's Bytes, Ints and Texts. -/
import Derived.Test.YtlnmefpndgmenaaDoorOut1
namespace Go.Proofs.YtlnmefpndgmenaaDoor
open Go.RowKit

set_option maxRecDepth 100000 in
/-- What an Out hands back. -/
theorem out_bytes (b o : Nat) (v : Value) (l : List UInt8) (bad : Bool) (w : World) (h : OutAt w b o v l bad) :
    Calls Tryd.prog 28 #[.pointer (some ⟨b, o, none⟩)] w fun e w' => e = .returned (.tuple #[.string ⟨(if bad then [] else l).toArray⟩, .bool (!bad)]) ∧ w = w' := by
  have h0 := h.c0
  have h1 := h.c1
  have hcv := run_convert_own (P := Tryd.prog) Tryd.underlying48 Tryd.underlying5 Tryd.underlying9 h.row
  cases bad
  · go_enter Tryd.func28, Tryd.ntmps28
    go_wp2_with fail
    go_ret2
    exact ⟨rfl, rfl⟩
  · go_enter Tryd.func28, Tryd.ntmps28
    go_wp2_with fail
    go_ret2
    exact ⟨rfl, rfl⟩

set_option maxRecDepth 100000 in
theorem out_bytes_nil (w : World) :
    Calls Tryd.prog 28 #[.pointer none] w fun e w' => e = .returned (.tuple #[.string ⟨([] : List UInt8).toArray⟩, .bool false]) ∧ w = w' := by
  go_enter Tryd.func28, Tryd.ntmps28
  go_wp2_with fail
  go_ret2
  exact ⟨rfl, rfl⟩

def intsV (zs : List Int) : List Value := zs.map (Value.int .i64)
@[simp] theorem intsV_length (zs : List Int) : (intsV zs).length = zs.length := by simp [intsV]
def strsV (ss : List (List UInt8)) : List Value := ss.map fun s => Value.string ⟨s.toArray⟩
@[simp] theorem strsV_length (ss : List (List UInt8)) : (strsV ss).length = ss.length := by simp [strsV]

def Oct.ints (zs : List Int) : List UInt8 := zs.flatMap Oct.enc
def Oct.texts (ss : List (List UInt8)) : List UInt8 := ss.flatMap Oct.text
theorem Oct.ints_snoc (zs : List Int) (k : Nat) (h : k < zs.length) : Oct.ints (zs.take (k + 1)) = Oct.ints (zs.take k) ++ Oct.enc zs[k] := by
  rw [List.take_succ_eq_append_getElem h, Oct.ints, Oct.ints, List.flatMap_append]; rw [List.flatMap_cons, List.flatMap_nil, List.append_nil]
theorem Oct.texts_snoc (ss : List (List UInt8)) (k : Nat) (h : k < ss.length) : Oct.texts (ss.take (k + 1)) = Oct.texts (ss.take k) ++ Oct.text ss[k] := by
  rw [List.take_succ_eq_append_getElem h, Oct.texts, Oct.texts, List.flatMap_append]; rw [List.flatMap_cons, List.flatMap_nil, List.append_nil]
theorem Oct.ints_le (zs : List Int) : (Oct.ints zs).length ≤ 8 * zs.length := by
  induction zs with
  | nil => simp [Oct.ints]
  | cons z zs ih =>
    have := Oct.enc_le z
    simp only [Oct.ints, List.flatMap_cons, List.length_append, List.length_cons] at *
    omega
theorem Oct.text_le (s : List UInt8) : (Oct.text s).length ≤ 65544 := by
  unfold Oct.text
  split
  · simp
  · have := Oct.enc_le s.length
    simp; omega
theorem Oct.texts_le (ss : List (List UInt8)) : (Oct.texts ss).length ≤ 65544 * ss.length := by
  induction ss with
  | nil => simp [Oct.texts]
  | cons z zs ih =>
    have := Oct.text_le z
    simp only [Oct.texts, List.flatMap_cons, List.length_append, List.length_cons] at *
    omega

/-- Can numbers, texts not be written? -/
def Oct.badInts (zs : List Int) : Bool := zs.any fun z => (Oct.enc z).isEmpty
def Oct.badTexts (ss : List (List UInt8)) : Bool := ss.any fun s => decide (65536 < s.length)
theorem Oct.badInts_snoc (zs : List Int) (k : Nat) (h : k < zs.length) : Oct.badInts (zs.take (k + 1)) = (Oct.badInts (zs.take k) || (Oct.enc zs[k]).isEmpty) := by
  rw [List.take_succ_eq_append_getElem h, Oct.badInts, Oct.badInts, List.any_append]; rw [List.any_cons, List.any_nil, Bool.or_false]
theorem Oct.badTexts_snoc (ss : List (List UInt8)) (k : Nat) (h : k < ss.length) : Oct.badTexts (ss.take (k + 1)) = (Oct.badTexts (ss.take k) || decide (65536 < ss[k].length)) := by
  rw [List.take_succ_eq_append_getElem h, Oct.badTexts, Oct.badTexts, List.any_append]; rw [List.any_cons, List.any_nil, Bool.or_false]

end Go.Proofs.YtlnmefpndgmenaaDoor
