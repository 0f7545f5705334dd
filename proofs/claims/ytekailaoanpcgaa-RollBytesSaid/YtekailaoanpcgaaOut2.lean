/- The walks of octets.Out's Bytes, Ints and Texts. -/
import Derived.Test.YtekailaoanpcgaaOut1
namespace Go.Proofs.Ytekailaoanpcgaa
open Go.RowKit

set_option maxRecDepth 100000 in
/-- What an Out hands back. -/
theorem out_bytes (b o : Nat) (v : Value) (l : List UInt8) (bad : Bool) (w : World) (h : OutAt w b o v l bad) :
    Calls Try.prog 30 #[.pointer (some ⟨b, o, none⟩)] w fun e w' => e = .returned (.tuple #[.string ⟨(if bad then [] else l).toArray⟩, .bool (!bad)]) ∧ w = w' := by
  have h0 := h.c0
  have h1 := h.c1
  have hcv := run_convert_own (P := Try.prog) Try.underlying33 Try.underlying5 Try.underlying9 h.row
  cases bad
  · go_enter Try.func30, Try.ntmps30
    go_wp2_with fail
    go_ret2
    exact ⟨rfl, rfl⟩
  · go_enter Try.func30, Try.ntmps30
    go_wp2_with fail
    go_ret2
    exact ⟨rfl, rfl⟩

set_option maxRecDepth 100000 in
theorem out_bytes_nil (w : World) :
    Calls Try.prog 30 #[.pointer none] w fun e w' => e = .returned (.tuple #[.string ⟨([] : List UInt8).toArray⟩, .bool false]) ∧ w = w' := by
  go_enter Try.func30, Try.ntmps30
  go_wp2_with fail
  go_ret2
  exact ⟨rfl, rfl⟩

def intsV (zs : List Int) : List Value := zs.map (Value.int .i64)
@[simp] theorem intsV_length (zs : List Int) : (intsV zs).length = zs.length := by simp [intsV]
def strsV (ss : List (List UInt8)) : List Value := ss.map fun s => Value.string ⟨s.toArray⟩
@[simp] theorem strsV_length (ss : List (List UInt8)) : (strsV ss).length = ss.length := by simp [strsV]

def Oct.ints (zs : List Int) : List UInt8 := zs.flatMap Oct.enc
def Oct.texts (ss : List (List UInt8)) : List UInt8 := ss.flatMap Oct.text
theorem Oct.ints_snoc (zs : List Int) (k : Nat) (h : k < zs.length) : Oct.ints (zs.take (k + 1)) = Oct.ints (zs.take k) ++ Oct.enc zs[k] := by
  rw [List.take_succ_eq_append_getElem h, Oct.ints, Oct.ints, List.flatMap_append]; rw [List.flatMap_cons, List.flatMap_nil, List.append_nil]
theorem Oct.texts_snoc (ss : List (List UInt8)) (k : Nat) (h : k < ss.length) : Oct.texts (ss.take (k + 1)) = Oct.texts (ss.take k) ++ Oct.text ss[k] := by
  rw [List.take_succ_eq_append_getElem h, Oct.texts, Oct.texts, List.flatMap_append]; rw [List.flatMap_cons, List.flatMap_nil, List.append_nil]
theorem Oct.ints_le (zs : List Int) : (Oct.ints zs).length ≤ 8 * zs.length := by
  induction zs with
  | nil => simp [Oct.ints]
  | cons z zs ih =>
    have := Oct.enc_le z
    simp only [Oct.ints, List.flatMap_cons, List.length_append, List.length_cons] at *
    omega
theorem Oct.text_le (s : List UInt8) : (Oct.text s).length ≤ 65544 := by
  unfold Oct.text
  split
  · simp
  · have := Oct.enc_le s.length
    simp; omega
theorem Oct.texts_le (ss : List (List UInt8)) : (Oct.texts ss).length ≤ 65544 * ss.length := by
  induction ss with
  | nil => simp [Oct.texts]
  | cons z zs ih =>
    have := Oct.text_le z
    simp only [Oct.texts, List.flatMap_cons, List.length_append, List.length_cons] at *
    omega

/-- Can numbers, texts not be written? -/
def Oct.badInts (zs : List Int) : Bool := zs.any fun z => (Oct.enc z).isEmpty
def Oct.badTexts (ss : List (List UInt8)) : Bool := ss.any fun s => decide (65536 < s.length)
theorem Oct.badInts_snoc (zs : List Int) (k : Nat) (h : k < zs.length) : Oct.badInts (zs.take (k + 1)) = (Oct.badInts (zs.take k) || (Oct.enc zs[k]).isEmpty) := by
  rw [List.take_succ_eq_append_getElem h, Oct.badInts, Oct.badInts, List.any_append]; rw [List.any_cons, List.any_nil, Bool.or_false]
theorem Oct.badTexts_snoc (ss : List (List UInt8)) (k : Nat) (h : k < ss.length) : Oct.badTexts (ss.take (k + 1)) = (Oct.badTexts (ss.take k) || decide (65536 < ss[k].length)) := by
  rw [List.take_succ_eq_append_getElem h, Oct.badTexts, Oct.badTexts, List.any_append]; rw [List.any_cons, List.any_nil, Bool.or_false]

set_option maxRecDepth 100000 in
set_option maxHeartbeats 400000 in
theorem out_texts (b o : Nat) (v : Value) (l : List UInt8) (bad : Bool) (vs : Value) (zs : List (List UInt8)) (w : World) (h : OutAt w b o v l bad) (hl : l.length + 65544 * zs.length ≤ 35184372088832)
    (hs : ∀ s ∈ zs, s.length ≤ 281474976710656) (hr : Rd w vs zs.length 1 (strsV zs)) (hd : ∀ k, vs.ownBlock = some k → 0 < zs.length → ¬ OutS b v k) :
    Calls Try.prog 29 #[.pointer (some ⟨b, o, none⟩), vs] w (OutP b o w v (l ++ (Oct.enc zs.length ++ Oct.texts zs)) (bad || (decide (65536 < zs.length) || Oct.badTexts zs))) := by
  obtain ⟨ao, c, rfl⟩ := hr.shape
  go_enter Try.func29, Try.ntmps29
  go_wp2_with fail
  refine (out_count b o v l bad zs.length w h (by omega)).mono ?_
  rintro e w2 ⟨rfl, v2, hp⟩
  go_wp2_with fail
  go_loopw [12] (fun i wr => ∃ k v', k ≤ zs.length ∧ i = .int .i64 (k : Int) ∧ OutPost b o w v (l ++ Oct.enc zs.length ++ Oct.texts (zs.take k)) (bad || decide (65536 < zs.length) || Oct.badTexts (zs.take k)) v' wr)
    (fun i _ => zs.length - (intOf i).toNat)
  case atStart => exact ⟨0, v2, by omega, rfl, by simpa [Oct.texts, Oct.badTexts] using hp⟩
  case round =>
    obtain ⟨k, v', hk, rfl, hq⟩ := hrel
    by_cases hkl : k < zs.length
    · obtain ⟨b', o', rfl, hc⟩ := hr.at_ (by omega)
      have hck := hc k (by omega)
      have hb' : b' < w.heap.size := World.block_lt_of_cell? w _ hck
      have hcell : wr.cell? ⟨b', o' + k, none⟩ = some (.string ⟨zs[k].toArray⟩) := by
        rw [hq.frm.cell (p := ⟨b', o' + k, none⟩) hb' (hd b' rfl (by omega)), hck]
        simp [strsV]
      have hll := Oct.texts_le (zs.take k)
      have hle := Oct.enc_le zs.length
      simp only [List.length_take] at hll
      clear hc hck
      go_wp2_with (go_at_call 28; refine (out_text b o v' _ zs[k] _ wr hq.at_ (by simp only [List.length_append]; omega) (hs _ (List.getElem_mem hkl))).mono ?_; rintro e w3 ⟨rfl, v3, hp3⟩)
      refine ⟨⟨k + 1, v3, by omega, by go_num, ?_⟩, by simp [intOf]; omega⟩
      rw [Oct.texts_snoc zs k hkl, Oct.badTexts_snoc zs k hkl]
      have := hq.trans hp3
      simpa [List.append_assoc, Bool.or_assoc] using this
    · obtain rfl : k = zs.length := by omega
      go_wp2_with fail
      go_end0
      refine ⟨rfl, v', ?_⟩
      simpa [List.append_assoc, Bool.or_assoc] using hq

set_option maxRecDepth 100000 in
set_option maxHeartbeats 400000 in
theorem out_texts_nil (vs : Value) (zs : List (List UInt8)) (w : World) (hs : ∀ s ∈ zs, s.length ≤ 9223372036854775807) (hr : Rd w vs zs.length 1 (strsV zs)) (hl : zs.length ≤ 9223372036854775807) :
    Calls Try.prog 29 #[.pointer none, vs] w fun e w' => e = .returned (.tuple #[]) ∧ Frm No w w' := by
  obtain ⟨ao, c, rfl⟩ := hr.shape
  go_enter Try.func29, Try.ntmps29
  go_wp2_with fail
  refine (out_count_nil _ w).mono ?_
  rintro e w2 ⟨rfl, hf⟩
  go_wp2_with fail
  go_loopw [12] (fun i wr => ∃ k : Nat, k ≤ zs.length ∧ i = .int .i64 (k : Int) ∧ Frm No w wr) (fun i _ => zs.length - (intOf i).toNat)
  case atStart => exact ⟨0, by omega, rfl, hf⟩
  case round =>
    obtain ⟨k, hk, rfl, hq⟩ := hrel
    by_cases hkl : k < zs.length
    · obtain ⟨b', o', rfl, hc⟩ := hr.at_ (by omega)
      have hck := hc k (by omega)
      have hb' : b' < w.heap.size := World.block_lt_of_cell? w _ hck
      have hcell : wr.cell? ⟨b', o' + k, none⟩ = some (.string ⟨zs[k].toArray⟩) := by
        rw [hq.cell (p := ⟨b', o' + k, none⟩) hb' (fun h => h), hck]
        simp [strsV]
      clear hc hck
      go_wp2_with (go_at_call 28; refine (out_text_nil zs[k] _ (hs _ (List.getElem_mem hkl))).mono ?_; rintro e w3 ⟨rfl, hf3⟩)
      exact ⟨⟨k + 1, by omega, by go_num, hq.thenNo hf3⟩, by simp [intOf]; omega⟩
    · obtain rfl : k = zs.length := by omega
      go_wp2_with fail
      go_end0
      exact ⟨rfl, hq⟩

end Go.Proofs.Ytekailaoanpcgaa
