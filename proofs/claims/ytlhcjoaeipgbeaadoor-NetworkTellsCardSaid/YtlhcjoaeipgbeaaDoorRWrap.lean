/- The walks of the reference's Wrap and Open. -/
import Derived.Test.YtlhcjoaeipgbeaaDoorRSum
namespace Go.Proofs.YtlhcjoaeipgbeaaDoor
open Go.RowKit

def sbytes (n : Nat) : Nat → List UInt8
  | 0 => []
  | j + 1 => sbytes n j ++ [sbyte n j]
theorem seal_sbytes (r : Crc.R) : Crc.sealOf r = sbytes r.toNat 4 := by rw [seal_bytes]; rfl
theorem sbytes_length (n : Nat) : ∀ j, (sbytes n j).length = j
  | 0 => rfl
  | j + 1 => by simp [sbytes, sbytes_length n j]

set_option maxRecDepth 100000 in
set_option maxHeartbeats 400000 in
theorem refwrap_any (b : List UInt8) (w : World) (hl : b.length ≤ 140737488351232) :
    Calls Tryd.prog 14 #[.string ⟨b.toArray⟩] w fun e w' => e = .returned (.string ⟨(Frl.wrap b).toArray⟩) ∧ Frm No w w' := by
  have hc1 := fun (W : World) (x : Int) => conv_one (P := Tryd.prog) W Tryd.underlying32 Tryd.underlying5 Tryd.underlying9 x
  by_cases hb : 1048576 < b.length
  · have hw : Hid (Frl.wrap b = []) := hid (if_pos hb)
    have hb' : (1048576 : Int) < (b.length : Int) := by omega
    clear hc1
    go_enter Tryd.func14, Tryd.ntmps14
    go_wp2_with fail
    go_ret
    exact ⟨by rw [hw.out]; rfl, Frm.refl _ _⟩
  · have hb' : ¬ (1048576 : Int) < (b.length : Int) := by omega
    have hw := Frl.wrap_eq (b := b) (by omega)
    rw [seal_sbytes] at hw
    have HW := hid hw
    clear hw
    have he := Oct.enc_le b.length
    have HSE := hid (fun w => refsum_any (Oct.enc b.length ++ b) w (by rw [List.length_append]; omega))
    have HP := hid (fun w => refput_any (b.length : Int) w)
    generalize Oct.enc b.length = en at *
    have hsl := (Crc.sum (en ++ b)).isLt
    generalize (Crc.sum (en ++ b)).toNat = n at *
    go_enter Tryd.func14, Tryd.ntmps14
    go_wp2_with (first | (go_at_call 23; refine (HP.out _).mono ?_; rintro e w1 ⟨rfl, hf1⟩) | (go_at_call 13; refine (HSE.out _).mono ?_; rintro e w2 ⟨rfl, rfl⟩))
    go_loopw [3, 4, 5] (fun s c i wr => ∃ j : Nat, j ≤ 4 ∧ i = .int .i64 (j : Int) ∧ s = .string ⟨(en ++ b ++ sbytes n j).toArray⟩ ∧ c = .int .u32 ((n / 256 ^ j : Nat) : Int) ∧ Frm No w wr) (fun _ _ i _ => 4 - (intOf i).toNat)
    case atStart => exact ⟨0, by omega, rfl, by simp [sbytes], by simp, hf1⟩
    case round =>
      obtain ⟨j, hj, rfl, rfl, rfl, hf⟩ := hrel
      by_cases hj4 : j < 4
      · have hjz : (j : Int) < 4 := by omega
        have hb2 := sbytes_length n j
        have hdl : n / 256 ^ j ≤ n := Nat.div_le_self _ _
        have HN : Hid (n / 256 ^ (j + 1) = n / 256 ^ j / 256) := hid (by rw [Nat.div_div_eq_div_mul, Nat.pow_succ])
        have HB : Hid (sbytes n (j + 1) = sbytes n j ++ [UInt8.ofNat (n / 256 ^ j)]) := hid rfl
        generalize n / 256 ^ j = m at *
        generalize sbytes n j = sb at *
        go_wp2_with fail
        refine ⟨⟨j + 1, by omega, by go_num, ?_, ?_, hf.alloc _⟩, by simp [intOf]; omega⟩
        · rw [HB.out]
          have e : UInt8.ofNat (m % 256) = UInt8.ofNat m := UInt8.toNat_inj.1 (by simp)
          rw [e]
          simp only [List.append_assoc]
        · rw [HN.out]
          first | rfl | exact congrArg (Value.int .u32) (by omega)
      · obtain rfl : j = 4 := by omega
        go_wp2_with fail
        go_ret
        exact ⟨by rw [HW.out]; rfl, hf⟩

set_option maxRecDepth 100000 in
set_option maxHeartbeats 400000 in
theorem refopen_any (l : List UInt8) (w : World) (hl : l.length ≤ 140737488355328) :
    Calls Tryd.prog 15 #[.string ⟨l.toArray⟩] w (OpenP l w) := by
  have HG := hid (fun w => refget_any l w (by omega))
  unfold GetP at HG
  obtain ⟨⟨n, k, e⟩, hd⟩ : ∃ x, Oct.dec l = x := ⟨_, rfl⟩
  rw [hd] at HG
  by_cases he : e = 0
  · subst he
    have ho := Frl.open_ok hd
    have href := Frl.openN_ref hd
    obtain ⟨-, -, -, hkl, -, hk8⟩ := Oct.dec_ok hd
    by_cases h0 : n < 0
    · have HO : Hid (Frl.open_ l = ([], 2)) := hid (by rw [ho, Frl.openN, if_pos h0])
      clear ho hd href
      go_enter Tryd.func15, Tryd.ntmps15
      go_wp2_with (go_at_call 24; refine (HG.out _).mono ?_; rintro e w1 ⟨rfl, hf1⟩)
      go_ret2
      exact OpenP_mk HO.out rfl hf1
    · obtain ⟨m, rfl⟩ := Int.eq_ofNat_of_zero_le (show 0 ≤ n by omega)
      rw [Int.toNat_natCast] at href
      by_cases h1 : (1048576 : Int) < (m : Int)
      · have HO : Hid (Frl.open_ l = ([], 6)) := hid (by rw [ho, Frl.openN, if_neg h0, if_pos h1])
        clear ho hd href
        go_enter Tryd.func15, Tryd.ntmps15
        go_wp2_with (go_at_call 24; refine (HG.out _).mono ?_; rintro e w1 ⟨rfl, hf1⟩)
        go_ret2
        exact OpenP_mk HO.out rfl hf1
      · by_cases h2 : l.length < k + m + 4
        · have HO : Hid (Frl.open_ l = ([], 3)) := hid (by rw [ho, Frl.openN, if_neg h0, if_neg h1, Int.toNat_natCast, if_pos h2])
          have h2' : (l.length : Int) < (k : Int) + (m : Int) + 4 := by omega
          clear ho hd href
          go_enter Tryd.func15, Tryd.ntmps15
          go_wp2_with (go_at_call 24; refine (HG.out _).mono ?_; rintro e w1 ⟨rfl, hf1⟩)
          go_ret2
          exact OpenP_mk HO.out rfl hf1
        · by_cases h3 : k + m + 4 < l.length
          · have HO : Hid (Frl.open_ l = ([], 4)) := hid (by rw [ho, Frl.openN, if_neg h0, if_neg h1, Int.toNat_natCast, if_neg h2, if_pos h3])
            have h2' : ¬ (l.length : Int) < (k : Int) + (m : Int) + 4 := by omega
            have h3' : (k : Int) + (m : Int) + 4 < (l.length : Int) := by omega
            clear ho hd href
            go_enter Tryd.func15, Tryd.ntmps15
            go_wp2_with (go_at_call 24; refine (HG.out _).mono ?_; rintro e w1 ⟨rfl, hf1⟩)
            go_ret2
            exact OpenP_mk HO.out rfl hf1
          · have hr := href (by omega) (by omega) (by omega)
            have h2' : ¬ (l.length : Int) < (k : Int) + (m : Int) + 4 := by omega
            have h3' : ¬ (k : Int) + (m : Int) + 4 < (l.length : Int) := by omega
            have HWR := hid (fun w => refwrap_any ((l.drop k).take m) w (by rw [List.length_take]; omega))
            have hkm : k + m - k = m := Nat.add_sub_cancel_left _ _
            by_cases h4 : Frl.wrap ((l.drop k).take m) = l
            · have HO : Hid (Frl.open_ l = (List.take (k + m - k) (List.drop k l), 0)) := hid (by rw [ho, hr, if_pos h4, hkm])
              have h4' : (Frl.wrap (List.take m (List.drop k l)) == l) = true := by rw [h4]; simp
              have HO2 : Hid (Frl.open_ l = (List.take m (List.drop k l), 0)) := hid (by rw [ho, hr, if_pos h4])
              clear ho hd hr hkm h4 h2 h3 href
              generalize Frl.wrap (List.take m (List.drop k l)) = wv at *
              go_enter Tryd.func15, Tryd.ntmps15
              go_wp2_with (first | (go_at_call 24; refine (HG.out _).mono ?_; rintro e w1 ⟨rfl, hf1⟩) | (go_at_call 14; refine (HWR.out _).mono ?_; rintro e w2 ⟨rfl, hf2⟩))
              go_ret2
              first | exact OpenP_mk HO2.out rfl (hf1.then_ hf2) | exact OpenP_mk HO.out rfl (hf1.then_ hf2)
            · have HO : Hid (Frl.open_ l = ([], 5)) := hid (by rw [ho, hr, if_neg h4])
              have h4' : (Frl.wrap (List.take m (List.drop k l)) == l) = false := by simpa using h4
              clear ho hd hr hkm h4 h2 h3 href
              generalize Frl.wrap (List.take m (List.drop k l)) = wv at *
              go_enter Tryd.func15, Tryd.ntmps15
              go_wp2_with (first | (go_at_call 24; refine (HG.out _).mono ?_; rintro e w1 ⟨rfl, hf1⟩) | (go_at_call 14; refine (HWR.out _).mono ?_; rintro e w2 ⟨rfl, hf2⟩))
              go_ret2
              exact OpenP_mk HO.out rfl (hf1.then_ hf2)
  · have HO := hid (Frl.open_er hd he)
    clear hd
    go_enter Tryd.func15, Tryd.ntmps15
    go_wp2_with (go_at_call 24; refine (HG.out _).mono ?_; rintro e w1 ⟨rfl, hf1⟩)
    all_goals (go_ret2; exact OpenP_mk HO.out rfl hf1)
end Go.Proofs.YtlhcjoaeipgbeaaDoor
