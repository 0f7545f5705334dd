/- For every body, its checksum and its frame, and the body of that frame; for all bytes, the body of the frame or the specified error; two bodies have the same frame exactly if they are equal. The walks of FrameWraps, FrameOpens and FrameApart. -/
import Derived.Test.YtlhcjoaeipgbeaaDoorFrmSpeaks
namespace Go.Proofs.YtlhcjoaeipgbeaaDoor
open Go.RowKit

set_option maxRecDepth 100000 in
theorem framewraps (l : List UInt8) (_ : l.length ≤ 140737488351232) (w : World) (hT : Tab w) :
    Calls Tryd.prog 3 #[.string ⟨l.toArray⟩] w fun e w' => e = .returned (.bool true) ∧ Frm No w w' := by
  by_cases hlen : 5000 < l.length
  · have hlen' : (5000 : Int) < (l.length : Int) := by omega
    go_enter Tryd.func3, Tryd.ntmps3
    go_wp2_with (go_at_call 9; refine (frmspeaks _ hT).mono ?_; rintro e0 w0 ⟨rfl, hf0⟩)
    go_ret
    exact ⟨rfl, hf0⟩
  · have hlen' : ¬ (5000 : Int) < (l.length : Int) := by omega
    have HW := hid (fun w hT => wrap_any l w hT (by omega))
    have HO := hid (fun w hT => open_wrap_any l w hT (by omega))
    have HS := hid (fun w hT => sum_any l w hT (by omega))
    have HR := hid (fun w => refsum_any l w (by omega))
    have HRW := hid (fun w => refwrap_any l w (by omega))
    generalize Frl.wrap l = f at *
    generalize (Crc.sum l).toNat = n at *
    go_enter Tryd.func3, Tryd.ntmps3
    go_wp2_with (first | (go_at_call 9; refine (frmspeaks _ hT).mono ?_; rintro e0 w0 ⟨rfl, hf0⟩; have hT0 := hT.no hf0) | (go_at_call 10; refine (HW.out _ hT0).mono ?_; rintro e1 w1 ⟨rfl, hf1⟩; have hT1 := hT0.no hf1) | (go_at_call 11; refine (HO.out _ hT1).mono ?_; rintro e2 w2 ⟨rfl, hf2⟩; have hT2 := hT1.no hf2) | (go_at_call 12; refine (HS.out _ hT2).mono ?_; rintro e3 w3 ⟨rfl, rfl⟩) | (go_at_call 13; refine (HR.out _).mono ?_; rintro e4 w4 ⟨rfl, rfl⟩) | (go_at_call 14; refine (HRW.out _).mono ?_; rintro e5 w5 ⟨rfl, hf5⟩))
    go_ret
    exact ⟨rfl, ((hf0.then_ hf1).then_ hf2).then_ hf5⟩

set_option maxRecDepth 100000 in
theorem frameopens (l : List UInt8) (_ : l.length ≤ 140737488351232) (w : World) (hT : Tab w) :
    Calls Tryd.prog 4 #[.string ⟨l.toArray⟩] w fun e w' => e = .returned (.bool true) ∧ Frm No w w' := by
  by_cases hlen : 5000 < l.length
  · have hlen' : (5000 : Int) < (l.length : Int) := by omega
    go_enter Tryd.func4, Tryd.ntmps4
    go_wp2_with (go_at_call 9; refine (frmspeaks _ hT).mono ?_; rintro e0 w0 ⟨rfl, hf0⟩)
    go_ret
    exact ⟨rfl, hf0⟩
  · have hlen' : ¬ (5000 : Int) < (l.length : Int) := by omega
    have HO := hid (fun w hT => open_any l w hT (by omega))
    have HR := hid (fun w => refopen_any l w (by omega))
    unfold OpenP at HO HR
    generalize Frl.open_ l = x at *
    obtain ⟨b, e⟩ := x
    simp only at HO HR
    go_enter Tryd.func4, Tryd.ntmps4
    go_wp2_with (first | (go_at_call 9; refine (frmspeaks _ hT).mono ?_; rintro e0 w0 ⟨rfl, hf0⟩; have hT0 := hT.no hf0) | (go_at_call 11; refine (HO.out _ hT0).mono ?_; rintro e2 w2 ⟨rfl, hf2⟩) | (go_at_call 15; refine (HR.out _).mono ?_; rintro e5 w5 ⟨rfl, hf5⟩))
    go_ret
    exact ⟨rfl, (hf0.then_ hf2).then_ hf5⟩

set_option maxRecDepth 100000 in
theorem frameapart (a : List UInt8) (_ : a.length ≤ 140737488351232) (b : List UInt8) (_ : b.length ≤ 140737488351232) (w : World) (hT : Tab w) :
    Calls Tryd.prog 7 #[.string ⟨a.toArray⟩, .string ⟨b.toArray⟩] w fun e w' => e = .returned (.bool true) ∧ Frm No w w' := by
  by_cases hla : 2000 < a.length
  · have hla' : (2000 : Int) < (a.length : Int) := by omega
    go_enter Tryd.func7, Tryd.ntmps7
    go_wp2_with (go_at_call 9; refine (frmspeaks _ hT).mono ?_; rintro e0 w0 ⟨rfl, hf0⟩)
    go_ret
    exact ⟨rfl, hf0⟩
  have hla' : ¬ (2000 : Int) < (a.length : Int) := by omega
  by_cases hlb : 2000 < b.length
  · have hlb' : (2000 : Int) < (b.length : Int) := by omega
    go_enter Tryd.func7, Tryd.ntmps7
    go_wp2_with (go_at_call 9; refine (frmspeaks _ hT).mono ?_; rintro e0 w0 ⟨rfl, hf0⟩)
    go_ret
    exact ⟨rfl, hf0⟩
  have hlb' : ¬ (2000 : Int) < (b.length : Int) := by omega
  have hfa := Frl.wrap_length (b := a) (by omega)
  have hea := Oct.enc_le a.length
  have HA := hid (fun w hT => wrap_any a w hT (by omega))
  have HB := hid (fun w hT => wrap_any b w hT (by omega))
  have HF := hid (fun w hT => wrap_any (Frl.wrap a) w hT (by omega))
  have HO := hid (fun w hT => open_wrap_any (Frl.wrap a) w hT (by omega))
  generalize hG : Frl.wrap (Frl.wrap a) = G at *
  clear hG
  by_cases hab : a = b
  · subst hab
    generalize Frl.wrap a = f at *
    go_enter Tryd.func7, Tryd.ntmps7
    go_wp2_with (first | (go_at_call 9; refine (frmspeaks _ hT).mono ?_; rintro e0 w0 ⟨rfl, hf0⟩; have hT0 := hT.no hf0) | (go_at_call_of 10 (Value.string ⟨f.toArray⟩); refine (HF.out _ hT2).mono ?_; rintro e3 w3 ⟨rfl, hf3⟩; have hT3 := hT2.no hf3) | (go_at_call 10; refine (HA.out _ hT1).mono ?_; rintro e2 w2 ⟨rfl, hf2⟩; have hT2 := hT1.no hf2; clear HA) | (go_at_call 10; refine (HA.out _ hT0).mono ?_; rintro e1 w1 ⟨rfl, hf1⟩; have hT1 := hT0.no hf1) | (go_at_call 11; refine (HO.out _ hT3).mono ?_; rintro e4 w4 ⟨rfl, hf4⟩))
    go_ret
    exact ⟨rfl, (((hf0.then_ hf1).then_ hf2).then_ hf3).then_ hf4⟩
  · have hfg : (Frl.wrap a == Frl.wrap b) = false := by
      have : Frl.wrap a ≠ Frl.wrap b := fun h => hab (Frl.wrap_inj (by omega) (by omega) h)
      simpa using this
    have hab' : (a == b) = false := by simpa using hab
    clear hab hfa
    generalize Frl.wrap a = f at *
    generalize Frl.wrap b = g at *
    go_enter Tryd.func7, Tryd.ntmps7
    go_wp2_with (first | (go_at_call 9; refine (frmspeaks _ hT).mono ?_; rintro e0 w0 ⟨rfl, hf0⟩; have hT0 := hT.no hf0) | (go_at_call_of 10 (Value.string ⟨f.toArray⟩); refine (HF.out _ hT2).mono ?_; rintro e3 w3 ⟨rfl, hf3⟩; have hT3 := hT2.no hf3) | (go_at_call_of 10 (Value.string ⟨a.toArray⟩); refine (HA.out _ hT0).mono ?_; rintro e1 w1 ⟨rfl, hf1⟩; have hT1 := hT0.no hf1) | (go_at_call_of 10 (Value.string ⟨b.toArray⟩); refine (HB.out _ hT1).mono ?_; rintro e2 w2 ⟨rfl, hf2⟩; have hT2 := hT1.no hf2) | (go_at_call 11; refine (HO.out _ hT3).mono ?_; rintro e4 w4 ⟨rfl, hf4⟩))
    go_ret
    exact ⟨rfl, (((hf0.then_ hf1).then_ hf2).then_ hf3).then_ hf4⟩
end Go.Proofs.YtlhcjoaeipgbeaaDoor
