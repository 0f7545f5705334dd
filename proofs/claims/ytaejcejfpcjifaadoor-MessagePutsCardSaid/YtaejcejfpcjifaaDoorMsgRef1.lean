/- The document's answers for messages: numbers, texts, entries, which fields a kind has. -/
import Derived.Test.YtaejcejfpcjifaaDoorMsgW2
import Derived.Test.YtaejcejfpcjifaaDoorOctAll
import Derived.Test.YtaejcejfpcjifaaDoorMsgR1
import Derived.BigQuiet
import Derived.Deep.Cut
import Derived.Deep.CutRange
import Derived.Deep.CutBlock
namespace Go.Proofs.YtaejcejfpcjifaaDoor
open Go.RowKit
open Msg

theorem rmnumber_any (n : Int) (w : World) : Calls Tryd.prog 16 #[.int .i64 n] w fun e w' => e = .returned (.bool (Msg.num n)) ∧ w = w' := by
  have HN : Hid (Msg.num n = (decide (0 ≤ n) && decide (n ≤ 9007199254740992))) := hid rfl
  go_enter Tryd.func16, Tryd.ntmps16
  go_wp2_with fail
  all_goals
    go_ret
    exact ⟨by rw [HN.out]; first | (simp [*]; done) | (simp <;> omega), rfl⟩
theorem rmtext_any (s : List UInt8) (w : World) (hs : s.length ≤ 65536) : Calls Tryd.prog 51 #[.string ⟨s.toArray⟩] w fun e w' => e = .returned (.string ⟨(Oct.text s).toArray⟩) ∧ Frm No w w' := by
  have ht : Oct.text s = Oct.enc s.length ++ s := if_neg (by omega)
  rw [ht]
  clear ht
  have hle := Oct.enc_le s.length
  have hno : ¬ 9223372036854775807 < (Oct.enc (s.length : Int)).length + s.length := by omega
  go_enter Tryd.func51, Tryd.ntmps51
  go_wp2_with (go_at_call 49; refine (refput_any _ _).mono ?_; rintro e1 w1 ⟨rfl, hf1⟩)
  go_ret
  exact ⟨rfl, hf1⟩
theorem rmentry_any (x : Ent) (w : World) (hs : x.text.length ≤ 65536) : Calls Tryd.prog 52 #[.agg #[.int .i64 x.client, .int .i64 x.number, .string ⟨x.text.toArray⟩]] w fun e w' => e = .returned (.string ⟨(entB x).toArray⟩) ∧ Frm No w w' := by
  have HE : Hid (entB x = Oct.enc x.client ++ Oct.enc x.number ++ Oct.text x.text) := hid rfl
  have hl1 := Oct.enc_le x.client
  have hl2 := Oct.enc_le x.number
  have hl3 := Oct.text_le x.text
  have HP := hid (fun n w => refput_any n w)
  have HT := hid (fun w => rmtext_any x.text w hs)
  have bX := BC.new w [.int .i64 x.client, .int .i64 x.number, .string ⟨x.text.toArray⟩] 49
  generalize Oct.text x.text = T at *
  go_enter Tryd.func52, Tryd.ntmps52
  go_upto_region 1 with fail
  have hF : Frm No w (w.alloc (.cells #[.int .i64 x.client, .int .i64 x.number, .string ⟨x.text.toArray⟩] 49)) := (Frm.refl No w).alloc _
  have d0 := Wd.cell (bX.cell 0)
  have d1 := Wd.cell (bX.cell 1)
  have d2 := Wd.cell (bX.cell 2)
  refine wp_region_frm (by kernel_rfl) (by kernel_rfl) ?_
  repeat (go_big_quiet_step (first | exact Calls.wd (HP.out _ _) | exact Calls.wd (HT.out _)))
  refine wpQuiet_nil ?_
  intro w9 hf9
  go_wp2_with fail
  go_ret
  exact ⟨by rw [HE.out, List.append_assoc]; rfl, hF.thenNo hf9⟩
set_option maxRecDepth 100000 in
set_option maxHeartbeats 1000000 in
theorem rmhas_any (s : List UInt8) (c : UInt8) (w : World) (hs : s.length ≤ 1000000) : Calls Tryd.prog 15 #[.string ⟨s.toArray⟩, .int .u8 (c.toNat : Int)] w fun e w' => e = .returned (.bool (decide (c ∈ s))) ∧ w = w' := by
  go_enter Tryd.func15, Tryd.ntmps15
  go_wp2_with fail
  go_loopw [5] (fun i wr => ∃ k : Nat, k ≤ s.length ∧ i = .int .i64 (k : Int) ∧ c ∉ s.take k ∧ w = wr) (fun i _ => s.length - (intOf i).toNat)
  case atStart => exact ⟨0, by omega, rfl, by simp, rfl⟩
  case round =>
    obtain ⟨k, hk, rfl, hno, rfl⟩ := hrel
    by_cases hkl : k < s.length
    · have hkz : (k : Int) < (s.length : Int) := by omega
      have hin : c ∈ s.take (k + 1) ↔ s[k] = c := by
        rw [List.take_succ_eq_append_getElem hkl, List.mem_append]
        simp [hno, eq_comm]
      have HIN := hid hin
      have hmem : s[k] = c → c ∈ s := fun e => by rw [← e]; exact List.getElem_mem hkl
      have HM := hid hmem
      clear hin hno hmem
      by_cases hc : s[k] = c
      · have e1 : (((s[k].toNat : Nat) : Int) == ((c.toNat : Nat) : Int)) = true := by rw [hc]; simp
        have HC := hid hc
        clear hc
        go_wp2_with fail
        go_ret
        exact ⟨(congrArg (fun b => Ending.returned (.bool b)) (_root_.decide_eq_true (HM.out HC.out))).symm, rfl⟩
      · have e1 : (((s[k].toNat : Nat) : Int) == ((c.toNat : Nat) : Int)) = false := by
          simp only [beq_eq_false_iff_ne, ne_eq, Int.natCast_inj]
          exact fun e => hc (UInt8.toNat_inj.1 e)
        have HC := hid hc
        clear hc
        go_wp2_with fail
        exact ⟨⟨k + 1, by omega, by go_num, fun h => HC.out (HIN.out.1 h), trivial⟩, by simp only [intOf]; omega⟩
    · obtain rfl : k = s.length := by omega
      rw [List.take_length] at hno
      have HN := hid hno
      clear hno
      go_wp2_with fail
      go_ret
      exact ⟨(congrArg (fun b => Ending.returned (.bool b)) (_root_.decide_eq_false HN.out)).symm, rfl⟩
end Go.Proofs.YtaejcejfpcjifaaDoor
