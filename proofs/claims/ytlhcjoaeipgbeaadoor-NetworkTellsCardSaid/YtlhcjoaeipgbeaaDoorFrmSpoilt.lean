/- The walk of FrameSpoilt: frames with one to four consecutive changed bytes, truncated frames and extended frames are rejected. -/
import Derived.Test.YtlhcjoaeipgbeaaDoorFrmSpeaks
import Derived.Lib.ConvBytes
import Derived.Lib.AtoiErrMem
namespace Go.Proofs.YtlhcjoaeipgbeaaDoor
open Go.RowKit

namespace Spo
/-- A frame and a text of the same length that is the same outside a window. -/
theorem told {b t : List UInt8} {p k : Nat} (h : b.length ≤ 1048576) (hl : t.length = (Frl.wrap b).length) (hk : k ≤ 4)
    (hout : ∀ j (h1 : j < t.length) (h2 : j < (Frl.wrap b).length), (j < p ∨ p + k ≤ j) → t[j] = (Frl.wrap b)[j]) (hne : t ≠ Frl.wrap b) : (Frl.open_ t).2 ≠ 0 := by
  have e1 : t.take p = (Frl.wrap b).take p := by
    apply List.ext_getElem
    · simp [hl]
    · intro i h1 h2
      rw [List.getElem_take, List.getElem_take]
      rw [List.length_take] at h1
      exact hout i (by omega) (by omega) (Or.inl (by omega))
  have e2 : t.drop (p + k) = (Frl.wrap b).drop (p + k) := by
    apply List.ext_getElem
    · simp [hl]
    · intro i h1 h2
      rw [List.getElem_drop, List.getElem_drop]
      rw [List.length_drop] at h1
      exact hout _ (by omega) (by omega) (Or.inr (by omega))
  have sp : ∀ l : List UInt8, l = l.take p ++ ((l.drop p).take k ++ l.drop (p + k)) := by
    intro l
    rw [← List.drop_drop, List.take_append_drop, List.take_append_drop]
  have s1 := sp (Frl.wrap b)
  have s2 := sp t
  rw [e1, e2] at s2
  rw [s2]
  refine Frl.open_spoilt h s1 (by simp [hl]) (by rw [List.length_take]; omega) ?_
  intro he
  apply hne
  rw [s2, ← he, ← s1]

def chg (n i : Nat) : Bool := (sbytes n i).any fun x => x != 0
theorem chg_succ (n i : Nat) : chg n (i + 1) = (chg n i || sbyte n i != 0) := by simp [chg, sbytes]
theorem chg_any {n i : Nat} : chg n i = true ↔ ∃ j, j < i ∧ sbyte n j ≠ 0 := by
  induction i with
  | zero => simp [chg, sbytes]
  | succ i ih =>
    rw [chg_succ, Bool.or_eq_true, ih]
    constructor
    · rintro (⟨j, hj, h⟩ | h)
      · exact ⟨j, by omega, h⟩
      · exact ⟨i, by omega, by simpa using h⟩
    · rintro ⟨j, hj, h⟩
      by_cases hji : j < i
      · exact Or.inl ⟨j, hji, h⟩
      · obtain rfl : j = i := by omega
        exact Or.inr (by simpa using h)
theorem xor_ne {a x : UInt8} (h : x ≠ 0) : a ^^^ x ≠ a := by
  intro e
  apply h
  have := congrArg (a ^^^ ·) e
  simpa [← UInt8.xor_assoc] using this
theorem turned_same {s : List UInt8} {n p i : Nat} (h : chg n i = false) : turned s n p i = s := by
  apply List.ext_getElem (turned_length s n p i)
  intro j h1 h2
  rw [turned_at]
  have : D n p i j = 0 := by
    unfold D
    split
    · rename_i hj
      cases hz : decide (sbyte n (j - p) = 0) with
      | true => exact of_decide_eq_true hz
      | false =>
        have := (chg_any (n := n) (i := i)).2 ⟨j - p, by omega, of_decide_eq_false hz⟩
        rw [h] at this
        cases this
    · rfl
  rw [this]; simp
theorem turned_other {s : List UInt8} {n p i : Nat} (h : chg n i = true) (hp : p + i ≤ s.length) : turned s n p i ≠ s := by
  obtain ⟨j, hj, hx⟩ := chg_any.1 h
  intro e
  have hl : p + j < (turned s n p i).length := by rw [turned_length]; omega
  have h1 := turned_at s n p i (p + j) hl
  have h2 : (turned s n p i)[p + j] = s[p + j]'(by omega) := by simp only [e]
  rw [h2] at h1
  have hd : D n p i (p + j) = sbyte n j := by
    unfold D
    rw [if_pos (by omega), Nat.add_sub_cancel_left]
  rw [hd] at h1
  exact xor_ne hx h1.symm
theorem turned_told {b : List UInt8} {n p i : Nat} (h : b.length ≤ 1048576) (hi : i ≤ 4) (hp : p + i ≤ (Frl.wrap b).length) (hc : chg n i = true) : (Frl.open_ (turned (Frl.wrap b) n p i)).2 ≠ 0 := by
  refine told (p := p) (k := i) h (turned_length _ _ _ _) hi (fun j h1 h2 ho => ?_) (turned_other hc hp)
  rw [turned_at]
  have : D n p i j = 0 := if_neg (by omega)
  rw [this]; simp
theorem at_in (x L : Int) (h : 1 ≤ L) (h2 : L ≤ 1000000) : 0 ≤ (x.tmod L + L).tmod L ∧ (x.tmod L + L).tmod L < L := by
  have h1 := Int.lt_tmod_of_pos x (b := L) (by omega)
  have h3 := Int.tmod_lt_of_pos x (b := L) (by omega)
  rw [Int.tmod_eq_emod_of_nonneg (by omega)]
  have h4 := Int.emod_nonneg (x.tmod L + L) (b := L) (by omega)
  have h5 := Int.emod_lt_of_pos (x.tmod L + L) (b := L) (by omega)
  omega
end Spo
open Spo

set_option maxRecDepth 100000 in
set_option maxHeartbeats 1000000 in
theorem framespoilt (b : List UInt8) (_ : b.length ≤ 140737488351232) (at_ : Int) (_ : -9223372036854775808 ≤ at_ ∧ at_ ≤ 9223372036854775807) (by_ : Int) (hby : 0 ≤ by_ ∧ by_ ≤ 4294967295) (w : World) (hT : Tab w) :
    Calls Tryd.prog 5 #[.string ⟨b.toArray⟩, .int .i64 at_, .int .u32 by_] w fun e w' => e = .returned (.bool true) ∧ Frm No w w' := by
  by_cases hlen : 3000 < b.length
  · have hlen' : (3000 : Int) < (b.length : Int) := by omega
    go_enter Tryd.func5, Tryd.ntmps5
    go_wp2_with (go_at_call 9; refine (frmspeaks _ hT).mono ?_; rintro e0 w0 ⟨rfl, hf0⟩)
    go_ret
    exact ⟨rfl, hf0⟩
  have hlen' : ¬ (3000 : Int) < (b.length : Int) := by omega
  obtain ⟨n, rfl⟩ := Int.eq_ofNat_of_zero_le hby.1
  have HW := hid (fun w hT => wrap_any b w hT (by omega))
  have HO := hid (fun w hT => open_wrap_any b w hT (by omega))
  have hfl := Frl.wrap_length (b := b) (by omega)
  have hel := Oct.enc_le b.length
  have HTOLD := hid (fun k (h1 : k ≤ 4) p h2 h3 => turned_told (b := b) (n := n) (p := p) (i := k) (by omega) h1 h2 h3)
  have HCUT := hid (fun m h => Frl.open_cut (b := b) (by omega) (m := m) h)
  have HTAIL := hid (fun r h => Frl.open_tail (b := b) (r := r) (by omega) h)
  have hf4 : 4 < (Frl.wrap b).length := by
    have := Oct.enc_ne (n := (b.length : Int)) (by omega) (by omega)
    have := List.length_pos_iff.2 this
    omega
  have hfu : (Frl.wrap b).length ≤ 4000 := by omega
  clear hfl hel
  generalize Frl.wrap b = f at *
  have hai := at_in at_ (f.length : Int) (by omega) (by omega)
  obtain ⟨p, hp⟩ := Int.eq_ofNat_of_zero_le hai.1
  have hpl : p < f.length := by rw [hp] at hai; omega
  have hw1 : wrap64 (at_.tmod (f.length : Int) + (f.length : Int)) = at_.tmod (f.length : Int) + (f.length : Int) := by
    have h1 := Int.lt_tmod_of_pos at_ (b := (f.length : Int)) (by omega)
    have h3 := Int.tmod_lt_of_pos at_ (b := (f.length : Int)) (by omega)
    exact IntWalk.wrap64_in _ (by omega)
  rw [← hw1] at hp
  clear hai hw1
  have hcb := fun W : World => Lib.run_convert_string_bytes (P := Tryd.prog) W 9 32 5 ⟨f.toArray⟩ Tryd.underlying9 Tryd.underlying32 Tryd.underlying5
  go_enter Tryd.func5, Tryd.ntmps5
  go_wp2_with (first | (go_at_call 9; refine (frmspeaks _ hT).mono ?_; rintro e0 w0 ⟨rfl, hf0⟩; have hT0 := hT.no hf0) | (go_at_call 10; refine (HW.out _ hT0).mono ?_; rintro e1 w1 ⟨rfl, hf1⟩))
  have hBA : BytesAt (Lib.bytesWorld w1 5 ⟨f.toArray⟩) w1.heap.size (turned f n p 0) := by rw [turned_same rfl]; exact bytes_start w1 5 f
  have hfB : Frm No w (Lib.bytesWorld w1 5 ⟨f.toArray⟩) := (hf0.then_ hf1).thenNo (Frm.ofBelow_size (Lib.bytesWorld_below w1 5 ⟨f.toArray⟩))
  have hBs : w.heap.size ≤ w1.heap.size := (hf0.then_ hf1).size
  obtain ⟨B, hB⟩ : ∃ B, w1.heap.size = B := ⟨_, rfl⟩
  rw [hB] at hBA hBs
  simp only [hB]
  generalize grownCap w1 f.length 0 5 = cap
  generalize Lib.bytesWorld w1 5 ⟨f.toArray⟩ = wb at *
  clear hcb hB
  go_loopw [9, 10] (fun c i wr => ∃ k : Nat, k ≤ 4 ∧ p + k ≤ f.length ∧ i = .int .i64 (k : Int) ∧ c = .bool (chg n k) ∧ BytesAt wr B (turned f n p k) ∧ Frm No w wr) (fun _ i _ => 4 - (intOf i).toNat)
  case atStart => exact ⟨0, by omega, by omega, rfl, rfl, hBA, hfB⟩
  case round =>
    obtain ⟨k, hk, hpk, rfl, rfl, hBk, hf⟩ := hrel
    clear hBA hfB
    by_cases hlast : k < 4 ∧ p + k < f.length
    · obtain ⟨hk4, hpk'⟩ := hlast
      have hkz : (k : Int) < 4 := by omega
      have hkz2 : (k : Int) < (f.length : Int) - (p : Int) := by omega
      have hS := sbyte_int n k
      have hX := xor_u8 f[p + k] (sbyte n k)
      have HST := hid (bytes_step hBk hpk')
      have hcell := hBk (p + k) (by rw [turned_length]; exact hpk')
      have hcur : (turned f n p k)[p + k]'(by rw [turned_length]; exact hpk') = f[p + k] := by
        rw [turned_at]
        have : D n p k (p + k) = 0 := if_neg (by omega)
        rw [this]; simp
      rw [hcur] at hcell
      obtain ⟨hc0, hc1⟩ := hcell
      have HC := hid (chg_succ n k)
      have hx0 : sbyte n k = 0 ∨ (sbyte n k ≠ 0 ∧ ((sbyte n k).toNat : Int) ≠ 0) := by
        by_cases h : sbyte n k = 0
        · exact Or.inl h
        · refine Or.inr ⟨h, fun e => h ?_⟩
          apply UInt8.toNat_inj.1
          show _ = 0
          omega
      clear hBk hcur HTOLD HCUT HTAIL HO
      generalize f[p + k] ^^^ sbyte n k = z at *
      generalize f[p + k] = a at *
      generalize chg n k = ck at *
      generalize sbyte n k = x at *
      rcases hx0 with hx | ⟨hx, hx'⟩
      · subst hx
        have hX0 : bits BinOp.xor IntKind.u8 ((a.toNat : Nat) : Int) 0 = ((z.toNat : Nat) : Int) := hX
        clear hX
        cases ck
        all_goals
          go_wp2_with fail
          exact ⟨⟨k + 1, by omega, by omega, by go_num, by rw [HC.out]; rfl, HST.out, hf.setCell (p := ⟨B, p + k, none⟩) (fun h => by simp at h; omega) _⟩, by simp [intOf]; omega⟩
      · have hxb : (x != 0) = true := by simpa using hx
        have hxe : (((x.toNat : Nat) : Int) == 0) = false := by simpa using hx'
        rw [hxb, Bool.or_true] at HC
        clear hx hx' hxb
        cases ck
        all_goals
          go_wp2_with fail
          exact ⟨⟨k + 1, by omega, by omega, by go_num, by first | (rw [HC.out]; done) | (rw [HC.out]; simp only [bne, hxe, Bool.not_false]), HST.out, hf.setCell (p := ⟨B, p + k, none⟩) (fun h => by simp at h; omega) _⟩, by simp [intOf]; omega⟩
    · have hTr := hT.no hf
      have hcv := run_convert_cells (P := Tryd.prog) (w := wr) Tryd.underlying32 Tryd.underlying5 Tryd.underlying9 B 0 f.length cap (turned f n p k) (turned_length _ _ _ _) (fun i hi => by rw [Nat.zero_add]; exact (hBk i hi).1)
      have htl := turned_length f n p k
      have HO2 : Hid (∀ w, Tab w → Calls Tryd.prog 11 #[.string ⟨(f.take p).toArray⟩] w fun e w' => e = .returned (.tuple #[.string ⟨([] : List UInt8).toArray⟩, .int .i64 3]) ∧ Frm No w w') := by
        refine hid (fun w hT => (open_any (f.take p) w hT (by rw [List.length_take]; omega)).mono fun e w' ⟨h, hf⟩ => ⟨?_, hf⟩)
        rw [h, HCUT.out p hpl]
      have HO3 : Hid (∀ w, Tab w → Calls Tryd.prog 11 #[.string ⟨(f ++ f.take (1 + p % 4)).toArray⟩] w fun e w' => e = .returned (.tuple #[.string ⟨([] : List UInt8).toArray⟩, .int .i64 4]) ∧ Frm No w w') := by
        refine hid (fun w hT => (open_any (f ++ f.take (1 + p % 4)) w hT (by rw [List.length_append, List.length_take]; omega)).mono fun e w' ⟨h, hf⟩ => ⟨?_, hf⟩)
        rw [h, HTAIL.out _ (by intro e; have := congrArg List.length e; rw [List.length_take, List.length_nil] at this; omega)]
      have hp4 : ((p : Int)).tmod 4 = ((p % 4 : Nat) : Int) := by rw [Int.tmod_eq_emod_of_nonneg (by omega)]; omega
      have hp5 : p % 4 < 4 := Nat.mod_lt _ (by omega)
      cases hck : chg n k
      · have hsame := turned_same (s := f) (p := p) hck
        rw [hsame] at hcv
        have HO1 := HO
        clear HTOLD HCUT HTAIL hsame hBk hck HO htl
        by_cases hkk : k < 4
        · have hkz2 : ¬ (k : Int) < (f.length : Int) - (p : Int) := by omega
          go_wp2_with (first | (go_at_call 11; refine (HO1.out _ hTr).mono ?_; rintro e2 w2 ⟨rfl, hf2⟩; have hT2 := hTr.no hf2; clear HO1) | (go_at_call 11; refine (HO2.out _ hT2).mono ?_; rintro e3 w3 ⟨rfl, hf3⟩; have hT3 := hT2.no hf3; clear HO2) | (go_at_call 11; refine (HO3.out _ hT3).mono ?_; rintro e4 w4 ⟨rfl, hf4⟩))
          go_ret
          exact ⟨rfl, ((hf.thenNo hf2).thenNo hf3).thenNo hf4⟩
        · go_wp2_with (first | (go_at_call 11; refine (HO1.out _ hTr).mono ?_; rintro e2 w2 ⟨rfl, hf2⟩; have hT2 := hTr.no hf2; clear HO1) | (go_at_call 11; refine (HO2.out _ hT2).mono ?_; rintro e3 w3 ⟨rfl, hf3⟩; have hT3 := hT2.no hf3; clear HO2) | (go_at_call 11; refine (HO3.out _ hT3).mono ?_; rintro e4 w4 ⟨rfl, hf4⟩))
          go_ret
          exact ⟨rfl, ((hf.thenNo hf2).thenNo hf3).thenNo hf4⟩
      · have hne := HTOLD.out k hk p hpk hck
        have hfst := Frl.open_fst hne
        have HO1 := hid (fun w hT => open_any (turned f n p k) w hT (by omega))
        unfold OpenP at HO1
        rw [hfst] at HO1
        have hne' : ((Frl.open_ (turned f n p k)).2 == 0) = false := by simpa using hne
        clear HTOLD HCUT HTAIL hBk hck HO hfst hne
        generalize (Frl.open_ (turned f n p k)).2 = er at *
        generalize turned f n p k = tt at *
        by_cases hkk : k < 4
        · have hkz2 : ¬ (k : Int) < (f.length : Int) - (p : Int) := by omega
          go_wp2_with (first | (go_at_call 11; refine (HO1.out _ hTr).mono ?_; rintro e2 w2 ⟨rfl, hf2⟩; have hT2 := hTr.no hf2; clear HO1) | (go_at_call 11; refine (HO2.out _ hT2).mono ?_; rintro e3 w3 ⟨rfl, hf3⟩; have hT3 := hT2.no hf3; clear HO2) | (go_at_call 11; refine (HO3.out _ hT3).mono ?_; rintro e4 w4 ⟨rfl, hf4⟩))
          go_ret
          exact ⟨rfl, ((hf.thenNo hf2).thenNo hf3).thenNo hf4⟩
        · go_wp2_with (first | (go_at_call 11; refine (HO1.out _ hTr).mono ?_; rintro e2 w2 ⟨rfl, hf2⟩; have hT2 := hTr.no hf2; clear HO1) | (go_at_call 11; refine (HO2.out _ hT2).mono ?_; rintro e3 w3 ⟨rfl, hf3⟩; have hT3 := hT2.no hf3; clear HO2) | (go_at_call 11; refine (HO3.out _ hT3).mono ?_; rintro e4 w4 ⟨rfl, hf4⟩))
          go_ret
          exact ⟨rfl, ((hf.thenNo hf2).thenNo hf3).thenNo hf4⟩
end Go.Proofs.YtlhcjoaeipgbeaaDoor
