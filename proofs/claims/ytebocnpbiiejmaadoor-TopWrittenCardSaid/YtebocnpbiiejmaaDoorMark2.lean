/- The walks of marks' Put and Get; and the document's. -/
import Derived.Test.YtebocnpbiiejmaaDoorMark1
namespace Go.Proofs.YtebocnpbiiejmaaDoor
open Go.RowKit
open Spo

def Mk.part (n k : Nat) : List UInt8 := (List.range 8).map fun i => if i < k then UInt8.ofNat (n / 256 ^ (7 - i)) else 0
theorem Mk.part_length (n k : Nat) : (Mk.part n k).length = 8 := by simp [Mk.part]
theorem Mk.part_at (n k i : Nat) (h : i < (Mk.part n k).length) : (Mk.part n k)[i] = if i < k then UInt8.ofNat (n / 256 ^ (7 - i)) else 0 := by simp [Mk.part]
theorem Mk.part_all (n : Nat) : Mk.part n 8 = Mk.be8 n := by
  unfold Mk.part Mk.be8
  apply List.map_congr_left
  intro i hi
  rw [List.mem_range] at hi
  rw [if_pos hi]
theorem part_start (w : World) (T : TypeId) (n : Nat) : BytesAt (w.alloc (.cells #[.int .u8 0, .int .u8 0, .int .u8 0, .int .u8 0, .int .u8 0, .int .u8 0, .int .u8 0, .int .u8 0] T)) w.heap.size (Mk.part n 0) := by
  intro j hj
  rw [Mk.part_at]
  rw [Mk.part_length] at hj
  refine ⟨?_, World.frozen?_alloc_at _ _ _ _ rfl⟩
  rw [World.cell?_alloc_at _ _ _ _ rfl]
  have : j = 0 ∨ j = 1 ∨ j = 2 ∨ j = 3 ∨ j = 4 ∨ j = 5 ∨ j = 6 ∨ j = 7 := by omega
  rcases this with rfl | rfl | rfl | rfl | rfl | rfl | rfl | rfl <;> rfl
theorem part_step {w : World} {B : Nat} {n k : Nat} (h : BytesAt w B (Mk.part n k)) (hk : k < 8) {x : Int} (hx : x = (((UInt8.ofNat (n / 256 ^ (7 - k))).toNat : Nat) : Int)) : BytesAt (w.setCell ⟨B, k, none⟩ (.int .u8 x)) B (Mk.part n (k + 1)) := by
  intro j hj
  rw [Mk.part_length] at hj
  have hj' : j < (Mk.part n k).length := by rw [Mk.part_length]; exact hj
  obtain ⟨a, b⟩ := h j hj'
  refine ⟨?_, by rw [World.frozen?_setCell]; exact b⟩
  rw [Mk.part_at]
  rw [Mk.part_at] at a
  by_cases e : j = k
  · subst e
    rw [if_pos (by omega), World.cell?_setCell_same _ _ _ a, hx]
  · rw [World.cell?_setCell_other _ _ _ _ (fun e' => e (congrArg Addr.off e').symm), a]
    by_cases hlt : j < k
    · rw [if_pos hlt, if_pos (by omega)]
    · rw [if_neg hlt, if_neg (by omega)]

set_option maxRecDepth 100000 in
set_option maxHeartbeats 1000000 in
theorem mput_any (n : Nat) (hn : n < 18446744073709551616) (w : World) : Calls Tryd.prog 25 #[.float .f64 n] w fun e w' => e = .returned (.string ⟨(Mk.put n).toArray⟩) ∧ Frm No w w' := by
  have hb := bits_of (Mk.canon n)
  have hcl := Mk.canon_lt hn
  have HP : Hid (Mk.put n = Mk.part (Mk.canon n) 8) := hid (Mk.part_all _).symm
  have HC := hid (fun w => mcanon_any n w)
  generalize Mk.canon n = c at *
  generalize Mk.put n = pn at *
  clear hn
  have HB0 := part_start w 104 c
  have hf0 : Frm No w (w.alloc (.cells #[.int .u8 0, .int .u8 0, .int .u8 0, .int .u8 0, .int .u8 0, .int .u8 0, .int .u8 0, .int .u8 0] 104)) := (Frm.refl No w).alloc _
  go_enter Tryd.func25, Tryd.ntmps25
  go_wp2_with (go_at_call 57; refine (HC.out _).mono ?_; rintro e1 w1 ⟨rfl, rfl⟩)
  obtain ⟨B, hB⟩ : ∃ B, w.heap.size = B := ⟨_, rfl⟩
  rw [hB] at HB0
  have hBw : w.heap.size ≤ B := by omega
  simp only [hB]
  generalize w.alloc (.cells #[.int .u8 0, .int .u8 0, .int .u8 0, .int .u8 0, .int .u8 0, .int .u8 0, .int .u8 0, .int .u8 0] 104) = W0 at *
  clear hB hb
  go_loopw [9] (fun i wr => ∃ k : Nat, k ≤ 8 ∧ i = .int .i64 (k : Int) ∧ BytesAt wr B (Mk.part c k) ∧ Frm No w wr) (fun i _ => 8 - (intOf i).toNat)
  case atStart => exact ⟨0, by omega, rfl, HB0, hf0⟩
  case round =>
    obtain ⟨k, hk, rfl, hBk, hf⟩ := hrel
    clear HB0 hf0
    by_cases hk8 : k = 8
    · subst hk8
      have hcv := run_convert_cells (P := Tryd.prog) (w := wr) Tryd.underlying54 Tryd.underlying5 Tryd.underlying9 B 0 8 8 (Mk.part c 8) (Mk.part_length _ _) (fun i hi => by rw [Nat.zero_add]; exact (hBk i hi).1)
      rw [← HP.out] at hcv
      go_wp2_with fail
      go_ret
      exact ⟨rfl, hf⟩
    · have hst := hid (fun x hx => part_step hBk (by omega) (x := x) hx)
      have hcell := (hBk k (by rw [Mk.part_length]; omega)).1
      have hfz := (hBk k (by rw [Mk.part_length]; omega)).2
      generalize (Mk.part c k)[k]'(by rw [Mk.part_length]; omega) = y at *
      have hfw : Frm No w (wr.setCell ⟨B, k, none⟩ (.int .u8 (((UInt8.ofNat (c / 256 ^ (7 - k))).toNat : Nat) : Int))) := hf.setCell (p := ⟨B, k, none⟩) (fun h => absurd h (by show ¬ B < _; omega)) _
      have hx : k = 0 ∨ k = 1 ∨ k = 2 ∨ k = 3 ∨ k = 4 ∨ k = 5 ∨ k = 6 ∨ k = 7 := by omega
      clear hBk hk hk8
      rcases hx with rfl | rfl | rfl | rfl | rfl | rfl | rfl | rfl
      all_goals
        go_wp2_with fail
        refine ⟨⟨_, ?_, ?_, hst.out _ ?_, hf.setCell (fun h => absurd h (by show ¬ B < _; omega)) _⟩, by simp [intOf]⟩
        · decide
        · rfl
        · rw [UInt8.toNat_ofNat']
          simp only [Nat.reduceSub, Nat.reducePow, Nat.pow_zero, Nat.div_one]
          omega

theorem or_byte64 (x b : Nat) (hx : x < 72057594037927936) (hb : b < 256) : bits BinOp.or IntKind.u64 ((x : Int) * 256) (b : Int) = ((256 * x + b : Nat) : Int) := by
  have h : bits BinOp.or IntKind.u64 ((x * 256 : Nat) : Int) (b : Int) = ((x * 256 ||| b : Nat) : Int) := bits_or_u64_nat (x * 256) b (by omega) (by omega)
  rw [Int.natCast_mul] at h
  rw [show ((x : Int) * 256) = (x : Int) * ((256 : Nat) : Int) from rfl, h]
  have h2 : x * 256 ||| b = x * 256 + b := by
    have := Nat.two_pow_add_eq_or_of_lt (i := 8) hb x
    rw [Nat.mul_comm x 256]
    exact this.symm
  rw [h2, Nat.mul_comm]
theorem val8_snoc (l : List UInt8) (b : UInt8) : Mk.val8 (l ++ [b]) = 256 * Mk.val8 l + b.toNat := by simp [Mk.val8, List.foldl_append]
theorem val8_take_lt (s : List UInt8) (k : Nat) (hk : k ≤ 7) : Mk.val8 (s.take k) < 72057594037927936 := by
  have h := Mk.val8_bound (s.take k) 0
  have hl : (s.take k).length ≤ 7 := by rw [List.length_take]; omega
  have h2 : 256 ^ (s.take k).length ≤ 256 ^ 7 := Nat.pow_le_pow_right (by decide) hl
  have : Mk.val8 (s.take k) < (0 + 1) * 256 ^ (s.take k).length := h
  omega
set_option maxRecDepth 100000 in
set_option maxHeartbeats 1000000 in
theorem mget_any (s : List UInt8) (w : World) (hl : s.length ≤ 281474976710656) : Calls Tryd.prog 26 #[.string ⟨s.toArray⟩] w fun e w' => e = .returned (.tuple #[.float .f64 (Mk.get s).1, .int .i64 (Mk.get s).2]) ∧ w = w' := by
  by_cases h1 : s.length < 8
  · have hg : Hid (Mk.get s = (0, 3)) := hid (if_pos h1)
    have h1' : (s.length : Int) < 8 := by omega
    clear h1
    go_enter Tryd.func26, Tryd.ntmps26
    go_wp2_with fail
    go_ret2
    exact ⟨by rw [hg.out]; rfl, rfl⟩
  · by_cases h2 : 8 < s.length
    · have hg : Hid (Mk.get s = (0, 4)) := hid (by unfold Mk.get; rw [if_neg h1, if_pos h2])
      have h1' : ¬ (s.length : Int) < 8 := by omega
      have h2' : (8 : Int) < (s.length : Int) := by omega
      clear h1 h2
      go_enter Tryd.func26, Tryd.ntmps26
      go_wp2_with fail
      go_ret2
      exact ⟨by rw [hg.out]; rfl, rfl⟩
    · have h8 : s.length = 8 := by omega
      have hg : Hid (Mk.get s = if Mk.canon (Mk.val8 s) = Mk.val8 s then (Mk.val8 s, 0) else (0, 2)) := hid (by unfold Mk.get; rw [if_neg h1, if_neg h2])
      have H8 := hid h8
      have h1' : ¬ (s.length : Int) < 8 := by omega
      have h2' : ¬ (8 : Int) < (s.length : Int) := by omega
      clear h1 h2 h8
      go_enter Tryd.func26, Tryd.ntmps26
      go_wp2_with fail
      go_loop [4, 15] (fun n i => ∃ k : Nat, k ≤ 8 ∧ i = .int .i64 (k : Int) ∧ n = .int .u64 (Mk.val8 (s.take k) : Int)) (fun _ i => 8 - (intOf i).toNat)
      case atStart => exact ⟨0, by omega, rfl, rfl⟩
      case round =>
        obtain ⟨k, hk, rfl, rfl⟩ := hrel
        by_cases hk8 : k < 8
        · have hkz : (k : Int) < 8 := by omega
          have hks : k < s.length := by rw [H8.out]; exact hk8
          have hkz2 : (k : Int) < (s.length : Int) := by omega
          have hb := val8_take_lt s k (by omega)
          have hor := or_byte64 (Mk.val8 (s.take k)) s[k].toNat hb s[k].toNat_lt
          have HS : Hid (Mk.val8 (s.take (k + 1)) = 256 * Mk.val8 (s.take k) + s[k].toNat) := hid (by rw [List.take_succ_eq_append_getElem hks, val8_snoc])
          have hwb : IntKind.u64.wrap (s[k].toNat : Int) = (s[k].toNat : Int) := by
            have := s[k].toNat_lt
            rw [IntKind.wrap_u64]; omega
          generalize Mk.val8 (s.take k) = x at *
          go_wp2_with fail
          exact ⟨⟨k + 1, by omega, by go_num, by rw [HS.out, Int.natCast_add, Int.natCast_mul]; rfl⟩, by simp [intOf]; omega⟩
        · obtain rfl : k = 8 := by omega
          rw [List.take_of_length_le (by rw [H8.out]; exact Nat.le_refl _)]
          have hof := of_bits (Mk.val8 s)
          have hbc := bits_of (Mk.canon (Mk.val8 s))
          have HC := hid (fun w => mcanon_any (Mk.val8 s) w)
          by_cases hc : Mk.canon (Mk.val8 s) = Mk.val8 s
          · have hg' : Hid (Mk.get s = (Mk.val8 s, 0)) := hid (by rw [hg.out, if_pos hc])
            rw [hc] at HC hbc
            clear hg hc
            go_wp2_with (go_at_call 57; refine (HC.out _).mono ?_; rintro e1 w1 ⟨rfl, rfl⟩)
            go_ret2
            exact ⟨by rw [hg'.out]; rfl, rfl⟩
          · have hg' : Hid (Mk.get s = (0, 2)) := hid (by rw [hg.out, if_neg hc])
            have hc1 : ((Mk.canon (Mk.val8 s) : Int) == (Mk.val8 s : Int)) = false := by simp; omega
            have hc2 : ((Mk.canon (Mk.val8 s) : Int) != (Mk.val8 s : Int)) = true := by simp; omega
            clear hg
            go_wp2_with (go_at_call 57; refine (HC.out _).mono ?_; rintro e1 w1 ⟨rfl, rfl⟩)
            go_ret2
            exact ⟨by rw [hg'.out]; rfl, rfl⟩
theorem be8_drop (c k : Nat) (hk : k < 8) : (Mk.be8 c).drop (8 - (k + 1)) = UInt8.ofNat (c / 256 ^ k) :: (Mk.be8 c).drop (8 - k) := by
  have hl := Mk.be8_length c
  rw [List.drop_eq_getElem_cons (by omega)]
  have e : 8 - (k + 1) + 1 = 8 - k := by omega
  rw [e]
  congr 1
  unfold Mk.be8
  rw [List.getElem_map, List.getElem_range]
  congr 3
  omega
end Go.Proofs.YtebocnpbiiejmaaDoor
