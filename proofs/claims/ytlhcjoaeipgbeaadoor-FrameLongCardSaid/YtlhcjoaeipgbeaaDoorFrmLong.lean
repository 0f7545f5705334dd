/- The walk of FrameLong: the longest permitted body has a frame, a longer one has none. -/
import Derived.Test.YtlhcjoaeipgbeaaDoorFrmSpeaks
namespace Go.Proofs.YtlhcjoaeipgbeaaDoor
open Go.RowKit

theorem mask15 (x : Int) : ∃ m : Nat, bits BinOp.and IntKind.i64 x 15 = (m : Int) ∧ m ≤ 15 := by
  have hb : (BitVec.ofInt 64 15).toNat = 15 := by decide
  have h : ((BitVec.ofInt 64 x) &&& (BitVec.ofInt 64 15)).toNat ≤ 15 := by
    rw [BitVec.toNat_and, ← hb]
    exact Nat.le_trans Nat.and_le_right (by rw [hb]; exact Nat.le_refl _)
  refine ⟨((BitVec.ofInt 64 x) &&& (BitVec.ofInt 64 15)).toNat, ?_, h⟩
  exact IntWalk.i64_in ((((BitVec.ofInt 64 x) &&& (BitVec.ofInt 64 15)).toNat : Nat) : Int) ⟨by omega, by omega⟩
theorem zeros_bytes (n : Nat) : (madeCells (Value.int .u8 0).cells (n * 1)).toList = bytesV (List.replicate n 0) := by
  show (madeCells #[Value.int .u8 0] (n * 1)).toList = _
  rw [toList_madeCells_one, Nat.mul_one]
  simp [bytesV]
theorem long_enc (N : Nat) (h1 : 1048570 ≤ N) (h2 : N ≤ 1048576) : (Oct.enc (N : Int)).length = 4 := by
  rw [Oct.enc_in (by omega) (by omega), List.length_cons, Oct.be_length, Int.natAbs_natCast]
  unfold Oct.klen
  repeat (first | omega | split)

set_option maxRecDepth 100000 in
set_option maxHeartbeats 400000 in
theorem framelong (n : Int) (_ : -9223372036854775808 ≤ n ∧ n ≤ 9223372036854775807) (w : World) (hT : Tab w) :
    Calls Tryd.prog 6 #[.int .i64 n] w fun e w' => e = .returned (.bool true) ∧ Frm No w w' := by
  obtain ⟨m, hm, hm15⟩ := mask15 n
  obtain ⟨i0, hi, hz0, hz1, hz2⟩ := info_parts info_u8
  obtain ⟨N, hN⟩ : ∃ N, N = 1048570 + m := ⟨_, rfl⟩
  have hL : Hid ((1048570 + (m : Int)) = (N : Int)) := hid (by omega)
  have hB : Hid (i0.bytes * N ≤ 281474976710656) := hid (by rw [hz2]; omega)
  have hM : Hid (N ≤ maxLen) := hid (by unfold maxLen; omega)
  have hlr : (List.replicate N (0 : UInt8)).length = N := List.length_replicate
  have HW := hid (fun w hT => wrap_any (List.replicate N 0) w hT (by omega))
  have hm0 : (0 : Int) ≤ (m : Int) := by omega
  have hm1 : (m : Int) ≤ 15 := by omega
  by_cases hbig : 1048576 < N
  · have hw : Frl.wrap (List.replicate N 0) = [] := if_pos (by omega)
    rw [hw] at HW
    have hc : (1048576 : Int) < 1048570 + (m : Int) := by omega
    clear hN hlr hw
    go_enter Tryd.func6, Tryd.ntmps6
    go_wp2_with (first | (go_at_call 9; refine (frmspeaks _ hT).mono ?_; rintro e0 w0 ⟨rfl, hf0⟩; have hT0 := hT.no hf0) | (at_make; refine wpList_make_full _ rfl (.tmp 12) (.tmp 12) 32 rfl w.heap.size 5 i0 (.int .u8 0) 1 Tryd.underlying32 hi hz0 hz1 .i64 .i64 _ _ N rfl rfl hL.out hL.out hB.out hM.out hf0.size ?_; intro wb hown hgb; rw [zeros_bytes] at hown; have hcv := run_convert_own (P := Tryd.prog) Tryd.underlying32 Tryd.underlying5 Tryd.underlying9 hown; have hfb : Frm No w wb := hf0.thenNo (Frm.ofGrown hgb (fun _ e => by cases e))) | (go_at_call 10; refine (HW.out _ (hT.no hfb)).mono ?_; rintro e1 w1 ⟨rfl, hf1⟩))
    go_ret
    exact ⟨rfl, hfb.thenNo hf1⟩
  · have HO := hid (fun w hT => open_wrap_any (List.replicate N 0) w hT (by omega))
    have hfl := Frl.wrap_length (b := List.replicate N 0) (by omega)
    rw [hlr, long_enc N (by omega) (by omega)] at hfl
    have hfl' : ((Frl.wrap (List.replicate N 0)).length : Int) = 1048570 + (m : Int) + 8 := by omega
    have hc : ¬ (1048576 : Int) < 1048570 + (m : Int) := by omega
    clear hN hlr hbig hfl
    generalize Frl.wrap (List.replicate N 0) = f at *
    go_enter Tryd.func6, Tryd.ntmps6
    go_wp2_with (first | (go_at_call 9; refine (frmspeaks _ hT).mono ?_; rintro e0 w0 ⟨rfl, hf0⟩; have hT0 := hT.no hf0) | (at_make; refine wpList_make_full _ rfl (.tmp 12) (.tmp 12) 32 rfl w.heap.size 5 i0 (.int .u8 0) 1 Tryd.underlying32 hi hz0 hz1 .i64 .i64 _ _ N rfl rfl hL.out hL.out hB.out hM.out hf0.size ?_; intro wb hown hgb; rw [zeros_bytes] at hown; have hcv := run_convert_own (P := Tryd.prog) Tryd.underlying32 Tryd.underlying5 Tryd.underlying9 hown; have hfb : Frm No w wb := hf0.thenNo (Frm.ofGrown hgb (fun _ e => by cases e))) | (go_at_call 10; refine (HW.out _ (hT.no hfb)).mono ?_; rintro e1 w1 ⟨rfl, hf1⟩) | (go_at_call 11; refine (HO.out _ ((hT.no hfb).no hf1)).mono ?_; rintro e2 w2 ⟨rfl, hf2⟩))
    go_ret
    exact ⟨rfl, (hfb.thenNo hf1).thenNo hf2⟩
end Go.Proofs.YtlhcjoaeipgbeaaDoor
