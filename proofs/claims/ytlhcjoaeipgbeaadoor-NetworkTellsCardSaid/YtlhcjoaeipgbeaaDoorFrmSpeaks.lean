/- The walk of the frames' speaks. -/
import Derived.Test.YtlhcjoaeipgbeaaDoorRWrap
namespace Go.Proofs.YtlhcjoaeipgbeaaDoor
open Go.RowKit

theorem open_wrap_any (b : List UInt8) (w : World) (hT : Tab w) (hl : b.length ≤ 1048576) :
    Calls Tryd.prog 11 #[.string ⟨(Frl.wrap b).toArray⟩] w fun e w' => e = .returned (.tuple #[.string ⟨b.toArray⟩, .int .i64 0]) ∧ Frm No w w' := by
  have hw := Frl.wrap_length (b := b) hl
  have he := Oct.enc_le b.length
  refine (open_any (Frl.wrap b) w hT (by omega)).mono fun e w' ⟨h, hf⟩ => ⟨?_, hf⟩
  rw [h, Frl.open_wrap hl]

theorem sum_digits : (((Crc.sum [49, 50, 51, 52, 53, 54, 55, 56, 57]).toNat : Nat) : Int) = 3421780262 := by decide +kernel

set_option maxRecDepth 100000 in
theorem frmspeaks (w : World) (hT : Tab w) : Calls Tryd.prog 9 #[] w fun e w' => e = .returned (.bool true) ∧ Frm No w w' := by
  have HW := hid (fun w hT => wrap_any [97, 98] w hT (by decide))
  have HO := hid (fun w hT => open_wrap_any [97, 98] w hT (by decide))
  have HS := hid (fun w hT => sum_any [49, 50, 51, 52, 53, 54, 55, 56, 57] w hT (by decide))
  rw [sum_digits] at HS
  generalize Frl.wrap [97, 98] = f at *
  go_enter Tryd.func9, Tryd.ntmps9
  go_wp2_with (first | (go_at_call 10; refine (HW.out _ hT).mono ?_; rintro e1 w1 ⟨rfl, hf1⟩) | (go_at_call 11; refine (HO.out _ (hT.no hf1)).mono ?_; rintro e2 w2 ⟨rfl, hf2⟩) | (go_at_call 12; refine (HS.out _ ((hT.no hf1).no hf2)).mono ?_; rintro e3 w3 ⟨rfl, rfl⟩))
  go_ret
  exact ⟨rfl, hf1.then_ hf2⟩
end Go.Proofs.YtlhcjoaeipgbeaaDoor
