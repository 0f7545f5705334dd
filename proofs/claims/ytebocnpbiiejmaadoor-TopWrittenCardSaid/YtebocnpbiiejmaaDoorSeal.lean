/- The walks of frame.seal and frame.Wrap. -/
import Derived.Test.YtebocnpbiiejmaaDoorSum
import Derived.Test.YtebocnpbiiejmaaDoorSpo
namespace Go.Proofs.YtebocnpbiiejmaaDoor
open Go.RowKit

theorem seal_bytes (r : Crc.R) : Crc.sealOf r = [sbyte r.toNat 0, sbyte r.toNat 1, sbyte r.toNat 2, sbyte r.toNat 3] := by
  simp [Crc.sealOf, sbyte]

set_option maxRecDepth 100000 in
theorem seal_any (l : List UInt8) (w : World) (hT : Tab w) (hl : l.length ≤ 281474976710656) :
    Calls Tryd.prog 54 #[.string ⟨l.toArray⟩] w fun e w' => e = .returned (.string ⟨(Crc.sealOf (Crc.sum l)).toArray⟩) ∧ Frm No w w' := by
  have HS := hid (fun w hT => sum_any l w hT hl)
  have HB := hid (seal_bytes (Crc.sum l))
  generalize Crc.sealOf (Crc.sum l) = sl at *
  have hn := (Crc.sum l).isLt
  generalize (Crc.sum l).toNat = n at *
  go_enter Tryd.func54, Tryd.ntmps54
  go_wp2_with (go_at_call 71; refine (HS.out _ hT).mono ?_; rintro e w1 ⟨rfl, rfl⟩)
  go_loopw [8] (fun i wr => ∃ k : Nat, k ≤ 4 ∧ i = .int .i64 (k : Int) ∧ (∀ j, j < 4 → wr.cell? ⟨w.heap.size, j, none⟩ = some (.int .u8 (if j < k then (((sbyte n j).toNat : Nat) : Int) else 0)) ∧ wr.frozen? ⟨w.heap.size, j, none⟩ = false) ∧ Frm No w wr) (fun i _ => 4 - (intOf i).toNat)
  case atStart =>
    refine ⟨0, by omega, rfl, fun j hj => ?_, (Frm.refl _ _).alloc _⟩
    refine ⟨?_, World.frozen?_alloc_at _ _ _ _ rfl⟩
    rw [World.cell?_alloc_at _ _ _ _ rfl, if_neg (by omega)]
    have hj' : j = 0 ∨ j = 1 ∨ j = 2 ∨ j = 3 := by omega
    rcases hj' with rfl | rfl | rfl | rfl <;> rfl
  case round =>
    obtain ⟨k, hk, rfl, hc, hf⟩ := hrel
    by_cases hk4 : k < 4
    · have hkz : (k : Int) < 4 := by omega
      have hc0 := (hc k hk4).1
      have hf0 := (hc k hk4).2
      rw [if_neg (by omega)] at hc0
      have HC := hid hc
      clear hc
      go_wp2_with fail
      refine ⟨⟨k + 1, by omega, by go_num, fun j hj => ⟨?_, ?_⟩, hf.setCell (p := ⟨w.heap.size, k, none⟩) (fun h => by simp at h) _⟩, by simp [intOf]; omega⟩
      · by_cases hjk : j = k
        · subst hjk
          rw [World.cell?_setCell_same _ _ _ hc0, if_pos (by omega), sbyte_int]
        · rw [World.cell?_setCell_other _ _ _ _ (fun e => by first | exact hjk (congrArg Addr.off e) | exact hjk (congrArg Addr.off e).symm), (HC.out j hj).1]
          by_cases h : j < k
          · rw [if_pos h, if_pos (by omega)]
          · rw [if_neg h, if_neg (by omega)]
      · rw [World.frozen?_setCell]
        exact (HC.out j hj).2
    · obtain rfl : k = 4 := by omega
      have hcv := run_convert_cells (P := Tryd.prog) (w := wr) Tryd.underlying54 Tryd.underlying5 Tryd.underlying9 w.heap.size 0 4 4 [sbyte n 0, sbyte n 1, sbyte n 2, sbyte n 3] rfl (fun i hi => by
        have hi4 : i < 4 := hi
        have := (hc i hi4).1
        rw [if_pos hi4] at this
        rw [Nat.zero_add, this]
        have hj' : i = 0 ∨ i = 1 ∨ i = 2 ∨ i = 3 := by omega
        rcases hj' with rfl | rfl | rfl | rfl <;> rfl)
      rw [← HB.out] at hcv
      clear hc
      go_wp2_with fail
      go_ret
      exact ⟨rfl, hf⟩

set_option maxRecDepth 100000 in
theorem wrap_any (b : List UInt8) (w : World) (hT : Tab w) (hl : b.length ≤ 140737488351232) :
    Calls Tryd.prog 24 #[.string ⟨b.toArray⟩] w fun e w' => e = .returned (.string ⟨(Frl.wrap b).toArray⟩) ∧ Frm No w w' := by
  by_cases hb : 1048576 < b.length
  · have hw : Hid (Frl.wrap b = []) := hid (if_pos hb)
    have hb' : (1048576 : Int) < (b.length : Int) := by omega
    go_enter Tryd.func24, Tryd.ntmps24
    go_wp2_with fail
    go_ret
    exact ⟨by rw [hw.out]; rfl, Frm.refl _ _⟩
  · have hb' : ¬ (1048576 : Int) < (b.length : Int) := by omega
    have HW := hid (Frl.wrap_eq (b := b) (by omega))
    have he := Oct.enc_le b.length
    have hs := fun w hT => seal_any (Oct.enc b.length ++ b) w hT (by rw [List.length_append]; omega)
    have HSE := hid hs
    clear hs
    have HP := hid (fun w => put_any (b.length : Int) w)
    generalize Oct.enc b.length = en at *
    have hsl : (Crc.sealOf (Crc.sum (en ++ b))).length = 4 := rfl
    generalize Crc.sealOf (Crc.sum (en ++ b)) = sl at *
    go_enter Tryd.func24, Tryd.ntmps24
    go_wp2_with (first | (go_at_call 55; refine (HP.out _).mono ?_; rintro e w1 ⟨rfl, hf1⟩) | (go_at_call 54; refine (HSE.out _ (hT.no hf1)).mono ?_; rintro e w2 ⟨rfl, hf2⟩))
    go_ret
    exact ⟨by rw [HW.out, List.append_assoc]; rfl, hf1.then_ hf2⟩
end Go.Proofs.YtebocnpbiiejmaaDoor
