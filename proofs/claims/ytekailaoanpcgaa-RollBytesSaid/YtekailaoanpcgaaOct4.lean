/- The walk of the reference's Get. -/
import Derived.Test.YtekailaoanpcgaaOct3
import Derived.Deep.RegionWith
namespace Go.Proofs.Ytekailaoanpcgaa
open Go.RowKit

theorem refget_nil (w : World) : Calls Try.prog 86 #[.string ⟨([] : List UInt8).toArray⟩] w (GetP [] w) := by
  go_enter Try.func86, Try.ntmps86
  go_wp2_with fail
  go_ret3
  exact GetP_mk (n := 0) (k := 0) (e := 3) rfl rfl (Frm.refl _ _)

set_option maxRecDepth 100000 in
set_option maxHeartbeats 400000 in
theorem refget_form (c : UInt8) (r : List UInt8) (w : World) (_h : r.length ≤ 281474976710656) (hc : 7 < c.toNat % 128 ∨ c.toNat = 128) :
    Calls Try.prog 86 #[.string ⟨(c :: r).toArray⟩] w (GetP (c :: r) w) := by
  have hd : Oct.dec (c :: r) = (0, 0, 2) := by rw [Oct.dec, if_pos hc]
  have HD := hid hd
  clear hd
  have hc2 := c.toNat_lt
  by_cases h7 : 7 < c.toNat % 128
  · have h7' : (7 : Int) < (c.toNat : Int) % 128 := by omega
    go_enter Try.func86, Try.ntmps86
    go_wp2_with fail
    go_ret3
    exact GetP_mk HD.out rfl (Frm.refl _ _)
  · have h128 : c.toNat = 128 := by omega
    clear hc h7
    go_enter Try.func86, Try.ntmps86
    go_wp2_with fail
    go_ret3
    exact GetP_mk HD.out rfl (Frm.refl _ _)

set_option maxRecDepth 100000 in
set_option maxHeartbeats 400000 in
theorem refget_pos (c : UInt8) (r : List UInt8) (w : World) (h : r.length ≤ 281474976710656) (hc : c.toNat < 128) (h7 : c.toNat % 128 ≤ 7) (hne : c.toNat ≠ 128) :
    Calls Try.prog 86 #[.string ⟨(c :: r).toArray⟩] w (GetP (c :: r) w) := by
  have hdd := Oct.dec_ref c r ((Oct.val (r.take (c.toNat % 128)) : Int)) h7 hne
  have hds : r.length < c.toNat % 128 → Oct.dec (c :: r) = (0, 0, 3) := fun h => by rw [Oct.dec, if_neg (by omega), if_pos h]
  have hx : (Oct.val (r.take (c.toNat % 128)) : Int) = if 128 ≤ c.toNat then -(Oct.val (r.take (c.toNat % 128)) : Int) else (Oct.val (r.take (c.toNat % 128)) : Int) := by
    first | rw [if_pos (by omega)] | rw [if_neg (by omega)]
  have hcc := c.toNat_lt
  have hm : ((c.toNat : Int) == 128) = false := by simp; omega
  obtain ⟨k, hk⟩ : ∃ k : Nat, c.toNat % 128 = k := ⟨_, rfl⟩
  have hki : (c.toNat : Int) % 128 = (k : Int) := by omega
  have hsg : (c.toNat : Int) ≤ 127 := by omega
  rw [hk] at hdd h7 hx hds
  clear hk hc hne
  by_cases hlen : r.length < k
  · have HD := hid (hds hlen)
    clear hdd hx hds
    go_enter Try.func86, Try.ntmps86
    go_wp2_with fail
    go_ret3
    exact GetP_mk HD.out rfl (Frm.refl _ _)
  have HD := hid (hdd (by omega) hx)
  clear hdd hx hds
  go_enter Try.func86, Try.ntmps86
  go_wp2_with fail
  go_loop [6, 7] (fun n i => ∃ j : Nat, j ≤ k ∧ i = .int .i64 ((j : Int) + 1) ∧ n = .int .i64 (Oct.val (r.take j) : Int)) (fun _ i => (k + 1 - intOf i).toNat)
  case atStart => exact ⟨0, by omega, rfl, rfl⟩
  case round =>
    obtain ⟨j, hj, rfl, rfl⟩ := hrel
    have hv := Oct.val_lt (r.take j)
    have hvl : (r.take j).length = j := by simp; omega
    rw [hvl] at hv
    have hv1 : Oct.val (r.take j) < 72057594037927936 := by
      have : 256 ^ j ≤ 256 ^ 7 := Nat.pow_le_pow_right (by omega) (by omega)
      omega
    by_cases hjk : j < k
    · have hjr : j < r.length := by omega
      have hv2 : Oct.val (r.take j) < 281474976710656 := by
        have : 256 ^ j ≤ 256 ^ 6 := Nat.pow_le_pow_right (by omega) (by omega)
        omega
      have HV : Hid (Oct.val (r.take (j + 1)) = 256 * Oct.val (r.take j) + r[j].toNat) := by
        show _ = _
        rw [List.take_succ_eq_append_getElem hjr, Oct.val_snoc]
      have hrj : r[j].toNat < 256 := r[j].toNat_lt
      clear hv hvl
      generalize Oct.val (r.take j) = v at *
      go_wp2_with fail
      refine ⟨⟨j + 1, by omega, rfl, ?_⟩, by simp [intOf]; omega⟩
      rw [HV.out]
      exact congrArg (Value.int .i64) (by omega)
    · obtain rfl : j = k := by omega
      clear hv hvl
      generalize Oct.val (r.take j) = v at *
      by_cases he : Oct.enc ((v : Int)) = (c :: r).take (j + 1)
      · have HD2 := hid (HD.out.trans (if_pos he))
        have he' : (Oct.enc (v : Int) == c :: r.take j) = true := by rw [he]; simp
        clear HD he
        have hb1 : j + 1 ≤ r.length + 1 := by omega
        have hb2 : (j : Int) + 1 ≤ (r.length : Int) + 1 := by omega
        go_wp2_with fail
        have hw1 : IntKind.i64.wrap ((j : Int) + 1) = (j : Int) + 1 := IntWalk.i64_in _ (by omega)
        have hw2 : (0 : Int) ≤ (j : Int) + 1 := by omega
        have hw3 : ((j : Int) + 1).toNat = j + 1 := by omega
        refine wp_region_frm (by kernel_rfl) (by kernel_rfl) ?_
        repeat (go_big_quiet_step (exact Calls.wd (refput_any _ _)))
        refine wpQuiet_nil ?_
        clear hw1 hw2 hw3
        intro wq hf
        go_wp2_with fail
        go_ret3
        exact GetP_mk HD2.out rfl hf
      · have HD2 := hid (HD.out.trans (if_neg he))
        have he' : (Oct.enc ((v : Int)) == c :: r.take j) = false := by simpa using he
        clear HD he
        have hb1 : j + 1 ≤ r.length + 1 := by omega
        have hb2 : (j : Int) + 1 ≤ (r.length : Int) + 1 := by omega
        go_wp2_with fail
        have hw1 : IntKind.i64.wrap ((j : Int) + 1) = (j : Int) + 1 := IntWalk.i64_in _ (by omega)
        have hw2 : (0 : Int) ≤ (j : Int) + 1 := by omega
        have hw3 : ((j : Int) + 1).toNat = j + 1 := by omega
        refine wp_region_frm (by kernel_rfl) (by kernel_rfl) ?_
        repeat (go_big_quiet_step (exact Calls.wd (refput_any _ _)))
        refine wpQuiet_nil ?_
        clear hw1 hw2 hw3
        intro wq hf
        go_wp2_with fail
        go_ret3
        exact GetP_mk HD2.out rfl hf

set_option maxRecDepth 100000 in
set_option maxHeartbeats 400000 in
theorem refget_neg (c : UInt8) (r : List UInt8) (w : World) (h : r.length ≤ 281474976710656) (hc : 128 ≤ c.toNat) (h7 : c.toNat % 128 ≤ 7) (hne : c.toNat ≠ 128) :
    Calls Try.prog 86 #[.string ⟨(c :: r).toArray⟩] w (GetP (c :: r) w) := by
  have hdd := Oct.dec_ref c r (-(Oct.val (r.take (c.toNat % 128)) : Int)) h7 hne
  have hds : r.length < c.toNat % 128 → Oct.dec (c :: r) = (0, 0, 3) := fun h => by rw [Oct.dec, if_neg (by omega), if_pos h]
  have hx : -(Oct.val (r.take (c.toNat % 128)) : Int) = if 128 ≤ c.toNat then -(Oct.val (r.take (c.toNat % 128)) : Int) else (Oct.val (r.take (c.toNat % 128)) : Int) := by
    first | rw [if_pos (by omega)] | rw [if_neg (by omega)]
  have hcc := c.toNat_lt
  have hm : ((c.toNat : Int) == 128) = false := by simp; omega
  obtain ⟨k, hk⟩ : ∃ k : Nat, c.toNat % 128 = k := ⟨_, rfl⟩
  have hki : (c.toNat : Int) % 128 = (k : Int) := by omega
  have hsg : (127 : Int) < (c.toNat : Int) := by omega
  rw [hk] at hdd h7 hx hds
  clear hk hc hne
  by_cases hlen : r.length < k
  · have HD := hid (hds hlen)
    clear hdd hx hds
    go_enter Try.func86, Try.ntmps86
    go_wp2_with fail
    go_ret3
    exact GetP_mk HD.out rfl (Frm.refl _ _)
  have HD := hid (hdd (by omega) hx)
  clear hdd hx hds
  go_enter Try.func86, Try.ntmps86
  go_wp2_with fail
  go_loop [6, 7] (fun n i => ∃ j : Nat, j ≤ k ∧ i = .int .i64 ((j : Int) + 1) ∧ n = .int .i64 (Oct.val (r.take j) : Int)) (fun _ i => (k + 1 - intOf i).toNat)
  case atStart => exact ⟨0, by omega, rfl, rfl⟩
  case round =>
    obtain ⟨j, hj, rfl, rfl⟩ := hrel
    have hv := Oct.val_lt (r.take j)
    have hvl : (r.take j).length = j := by simp; omega
    rw [hvl] at hv
    have hv1 : Oct.val (r.take j) < 72057594037927936 := by
      have : 256 ^ j ≤ 256 ^ 7 := Nat.pow_le_pow_right (by omega) (by omega)
      omega
    by_cases hjk : j < k
    · have hjr : j < r.length := by omega
      have hv2 : Oct.val (r.take j) < 281474976710656 := by
        have : 256 ^ j ≤ 256 ^ 6 := Nat.pow_le_pow_right (by omega) (by omega)
        omega
      have HV : Hid (Oct.val (r.take (j + 1)) = 256 * Oct.val (r.take j) + r[j].toNat) := by
        show _ = _
        rw [List.take_succ_eq_append_getElem hjr, Oct.val_snoc]
      have hrj : r[j].toNat < 256 := r[j].toNat_lt
      clear hv hvl
      generalize Oct.val (r.take j) = v at *
      go_wp2_with fail
      refine ⟨⟨j + 1, by omega, rfl, ?_⟩, by simp [intOf]; omega⟩
      rw [HV.out]
      exact congrArg (Value.int .i64) (by omega)
    · obtain rfl : j = k := by omega
      clear hv hvl
      generalize Oct.val (r.take j) = v at *
      by_cases he : Oct.enc (-(v : Int)) = (c :: r).take (j + 1)
      · have HD2 := hid (HD.out.trans (if_pos he))
        have he' : (Oct.enc (-(v : Int)) == c :: r.take j) = true := by rw [he]; simp
        clear HD he
        have hb1 : j + 1 ≤ r.length + 1 := by omega
        have hb2 : (j : Int) + 1 ≤ (r.length : Int) + 1 := by omega
        go_wp2_with fail
        have hw1 : IntKind.i64.wrap ((j : Int) + 1) = (j : Int) + 1 := IntWalk.i64_in _ (by omega)
        have hw2 : (0 : Int) ≤ (j : Int) + 1 := by omega
        have hw3 : ((j : Int) + 1).toNat = j + 1 := by omega
        refine wp_region_frm (by kernel_rfl) (by kernel_rfl) ?_
        repeat (go_big_quiet_step (exact Calls.wd (refput_any _ _)))
        refine wpQuiet_nil ?_
        clear hw1 hw2 hw3
        intro wq hf
        go_wp2_with fail
        go_ret3
        exact GetP_mk HD2.out rfl hf
      · have HD2 := hid (HD.out.trans (if_neg he))
        have he' : (Oct.enc (-(v : Int)) == c :: r.take j) = false := by simpa using he
        clear HD he
        have hb1 : j + 1 ≤ r.length + 1 := by omega
        have hb2 : (j : Int) + 1 ≤ (r.length : Int) + 1 := by omega
        go_wp2_with fail
        have hw1 : IntKind.i64.wrap ((j : Int) + 1) = (j : Int) + 1 := IntWalk.i64_in _ (by omega)
        have hw2 : (0 : Int) ≤ (j : Int) + 1 := by omega
        have hw3 : ((j : Int) + 1).toNat = j + 1 := by omega
        refine wp_region_frm (by kernel_rfl) (by kernel_rfl) ?_
        repeat (go_big_quiet_step (exact Calls.wd (refput_any _ _)))
        refine wpQuiet_nil ?_
        clear hw1 hw2 hw3
        intro wq hf
        go_wp2_with fail
        go_ret3
        exact GetP_mk HD2.out rfl hf

/-- The reference's Get reads the number at the beginning of bytes. -/
theorem refget_any (l : List UInt8) (w : World) (h : l.length ≤ 281474976710656) : Calls Try.prog 86 #[.string ⟨l.toArray⟩] w (GetP l w) := by
  cases l with
  | nil => exact refget_nil w
  | cons c r =>
    have hr : r.length ≤ 281474976710656 := by simp at h; omega
    by_cases hc : 7 < c.toNat % 128 ∨ c.toNat = 128
    · exact refget_form c r w hr hc
    · rcases Nat.lt_or_ge c.toNat 128 with h8 | h8
      · exact refget_pos c r w hr h8 (by omega) (by omega)
      · exact refget_neg c r w hr h8 (by omega) (by omega)
end Go.Proofs.Ytekailaoanpcgaa
