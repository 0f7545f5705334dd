/- The walk of frame.Open. -/
import Derived.Test.YtebocnpbiiejmaaDoorSeal
namespace Go.Proofs.YtebocnpbiiejmaaDoor
open Go.RowKit

def OpenP (l : List UInt8) (w : World) (e : Ending) (w' : World) : Prop := e = .returned (.tuple #[.string ⟨(Frl.open_ l).1.toArray⟩, .int .i64 (Frl.open_ l).2]) ∧ Frm No w w'
theorem OpenP_mk {l : List UInt8} {w w' : World} {b : List UInt8} {e : Int} {v : Value} (h : Frl.open_ l = (b, e)) (hv : v = .tuple #[.string ⟨b.toArray⟩, .int .i64 e]) (hf : Frm No w w') : OpenP l w (.returned v) w' := by
  refine ⟨?_, hf⟩
  rw [h, hv]

set_option maxRecDepth 100000 in
set_option maxHeartbeats 400000 in
theorem open_any (l : List UInt8) (w : World) (hT : Tab w) (hl : l.length ≤ 140737488355328) :
    Calls Tryd.prog 23 #[.string ⟨l.toArray⟩] w (OpenP l w) := by
  have HG := hid (fun w => get_any l w (by omega))
  unfold GetP at HG
  obtain ⟨⟨n, k, e⟩, hd⟩ : ∃ x, Oct.dec l = x := ⟨_, rfl⟩
  rw [hd] at HG
  by_cases he : e = 0
  · subst he
    have ho := Frl.open_ok hd
    obtain ⟨-, -, -, hkl, -, hk8⟩ := Oct.dec_ok hd
    unfold Frl.openN at ho
    by_cases h0 : n < 0
    · rw [if_pos h0] at ho
      have HO := hid ho
      clear ho hd
      go_enter Tryd.func23, Tryd.ntmps23
      go_wp2_with (go_at_call 53; refine (HG.out _).mono ?_; rintro e w1 ⟨rfl, hf1⟩)
      go_ret2
      exact OpenP_mk HO.out rfl hf1
    · rw [if_neg h0] at ho
      obtain ⟨m, rfl⟩ := Int.eq_ofNat_of_zero_le (show 0 ≤ n by omega)
      rw [Int.toNat_natCast] at ho
      by_cases h1 : (1048576 : Int) < (m : Int)
      · rw [if_pos h1] at ho
        have HO := hid ho
        clear ho hd
        go_enter Tryd.func23, Tryd.ntmps23
        go_wp2_with (go_at_call 53; refine (HG.out _).mono ?_; rintro e w1 ⟨rfl, hf1⟩)
        go_ret2
        exact OpenP_mk HO.out rfl hf1
      · rw [if_neg h1] at ho
        by_cases h2 : l.length < k + m + 4
        · rw [if_pos h2] at ho
          have HO := hid ho
          have h2' : (l.length : Int) < (k : Int) + (m : Int) + 4 := by omega
          clear ho hd
          go_enter Tryd.func23, Tryd.ntmps23
          go_wp2_with (go_at_call 53; refine (HG.out _).mono ?_; rintro e w1 ⟨rfl, hf1⟩)
          go_ret2
          exact OpenP_mk HO.out rfl hf1
        · rw [if_neg h2] at ho
          by_cases h3 : k + m + 4 < l.length
          · rw [if_pos h3] at ho
            have HO := hid ho
            have h2' : ¬ (l.length : Int) < (k : Int) + (m : Int) + 4 := by omega
            have h3' : (k : Int) + (m : Int) + 4 < (l.length : Int) := by omega
            clear ho hd
            go_enter Tryd.func23, Tryd.ntmps23
            go_wp2_with (go_at_call 53; refine (HG.out _).mono ?_; rintro e w1 ⟨rfl, hf1⟩)
            go_ret2
            exact OpenP_mk HO.out rfl hf1
          · rw [if_neg h3] at ho
            have h2' : ¬ (l.length : Int) < (k : Int) + (m : Int) + 4 := by omega
            have h3' : ¬ (k : Int) + (m : Int) + 4 < (l.length : Int) := by omega
            have HS := hid (fun w hT => seal_any (l.take (k + m)) w hT (by rw [List.length_take]; omega))
            have hsl : (Crc.sealOf (Crc.sum (l.take (k + m)))).length = 4 := rfl
            generalize Crc.sealOf (Crc.sum (l.take (k + m))) = sl at *
            have hlt : List.take (l.length - (k + m)) (List.drop (k + m) l) = List.drop (k + m) l := List.take_of_length_le (by rw [List.length_drop]; omega)
            by_cases h4 : l.drop (k + m) = sl
            · rw [if_pos h4] at ho
              have HO : Hid (Frl.open_ l = (List.take (k + m - k) (List.drop k l), 0)) := hid (by rw [ho, Nat.add_sub_cancel_left])
              have h4' : (List.take (l.length - (k + m)) (List.drop (k + m) l) == sl) = true := by rw [hlt, h4]; simp
              clear ho hd h4 hlt h2 h3
              go_enter Tryd.func23, Tryd.ntmps23
              go_wp2_with (go_at_call 53; refine (HG.out _).mono ?_; rintro e w1 ⟨rfl, hf1⟩)
              refine wp_region_frm (by kernel_rfl) (by kernel_rfl) ?_
              repeat (go_big_quiet_step (exact Calls.wd (HS.out _ ((hT.no hf1).no (Wd.frm _)))))
              refine wpQuiet_nil ?_
              intro wq hfq
              go_wp2_with fail
              go_ret2
              exact OpenP_mk HO.out rfl (hf1.then_ hfq)
            · rw [if_neg h4] at ho
              have HO := hid ho
              have h4' : (List.take (l.length - (k + m)) (List.drop (k + m) l) == sl) = false := by rw [hlt]; simpa using h4
              clear ho hd h4 hlt h2 h3
              go_enter Tryd.func23, Tryd.ntmps23
              go_wp2_with (go_at_call 53; refine (HG.out _).mono ?_; rintro e w1 ⟨rfl, hf1⟩)
              refine wp_region_frm (by kernel_rfl) (by kernel_rfl) ?_
              repeat (go_big_quiet_step (exact Calls.wd (HS.out _ ((hT.no hf1).no (Wd.frm _)))))
              refine wpQuiet_nil ?_
              intro wq hfq
              go_wp2_with fail
              go_ret2
              exact OpenP_mk HO.out rfl (hf1.then_ hfq)
  · have HO := hid (Frl.open_er hd he)
    clear hd
    go_enter Tryd.func23, Tryd.ntmps23
    go_wp2_with (go_at_call 53; refine (HG.out _).mono ?_; rintro e w1 ⟨rfl, hf1⟩)
    all_goals (go_ret2; exact OpenP_mk HO.out rfl hf1)
end Go.Proofs.YtebocnpbiiejmaaDoor
