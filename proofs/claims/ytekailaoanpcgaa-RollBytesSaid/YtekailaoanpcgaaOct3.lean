/- The walk of octets.Get. -/
import Derived.Test.YtekailaoanpcgaaOct2
import Derived.Deep.QuietTactic
import Derived.BigQuiet
namespace Go.Proofs.Ytekailaoanpcgaa
open Go.RowKit

theorem andNot128 (c : UInt8) : bits BinOp.andNot IntKind.u8 (c.toNat : Int) 128 = ((c.toNat % 128 : Nat) : Int) := by
  have : ∀ j : Fin 256, bits BinOp.andNot IntKind.u8 (j.val : Int) 128 = ((j.val % 128 : Nat) : Int) := by decide +kernel
  exact this ⟨c.toNat, c.toNat_lt⟩
theorem and128_lo (c : UInt8) (h : c.toNat < 128) : bits BinOp.and IntKind.u8 (c.toNat : Int) 128 = 0 := by
  have : ∀ j : Fin 128, bits BinOp.and IntKind.u8 (j.val : Int) 128 = 0 := by decide +kernel
  exact this ⟨c.toNat, h⟩
theorem and128_hi (c : UInt8) (h : 128 ≤ c.toNat) : bits BinOp.and IntKind.u8 (c.toNat : Int) 128 = 128 := by
  have : ∀ j : Fin 128, bits BinOp.and IntKind.u8 ((j.val + 128 : Nat) : Int) 128 = 128 := by decide +kernel
  have := this ⟨c.toNat - 128, by have := c.toNat_lt; omega⟩
  simpa [show c.toNat - 128 + 128 = c.toNat from by omega] using this
theorem or_byte (x b : Nat) (hx : x < 281474976710656) (hb : b < 256) : bits BinOp.or IntKind.i64 ((x : Int) * 256) (b : Int) = ((256 * x + b : Nat) : Int) := by
  rw [bits_join .i64 63 (by decide) (fun n h0 h1 => IntWalk.i64_in n (by omega)) 8 ((x : Int) * 256) (b : Int) (by omega) (by omega) (by omega) (by omega) (by omega) (by omega)]
  omega

def GetP (l : List UInt8) (w : World) (e : Ending) (w' : World) : Prop :=
  e = .returned (.tuple #[.int .i64 (Oct.dec l).1, .int .i64 ((Oct.dec l).2.1 : Nat), .int .i64 (Oct.dec l).2.2]) ∧ Frm No w w'
theorem GetP_mk {l : List UInt8} {w : World} {n : Int} {k : Nat} {e : Int} {r : Ending} {w' : World} (hd : Oct.dec l = (n, k, e)) (hr : r = .returned (.tuple #[.int .i64 n, .int .i64 (k : Int), .int .i64 e])) (hf : Frm No w w') : GetP l w r w' := by
  subst hr
  refine ⟨?_, hf⟩
  rw [hd]

theorem get_nil (w : World) : Calls Try.prog 85 #[.string ⟨([] : List UInt8).toArray⟩] w (GetP [] w) := by
  go_enter Try.func85, Try.ntmps85
  go_wp2_with fail
  go_ret3
  exact GetP_mk (n := 0) (k := 0) (e := 3) rfl rfl (Frm.refl _ _)

set_option maxRecDepth 100000 in
set_option maxHeartbeats 400000 in
theorem get_form (c : UInt8) (r : List UInt8) (w : World) (_h : r.length ≤ 281474976710656) (hc : 7 < c.toNat % 128 ∨ c.toNat = 128) :
    Calls Try.prog 85 #[.string ⟨(c :: r).toArray⟩] w (GetP (c :: r) w) := by
  have hd : Oct.dec (c :: r) = (0, 0, 2) := by rw [Oct.dec, if_pos hc]
  have HD := hid hd
  have hA := andNot128 c
  clear hd
  obtain ⟨k, hk⟩ : ∃ k : Nat, c.toNat % 128 = k := ⟨_, rfl⟩
  rw [hk] at hA
  rcases hc with hc | hc
  · rw [hk] at hc
    have hk8 : k ≤ 127 := by omega
    clear hk
    go_enter Try.func85, Try.ntmps85
    go_wp2_with fail
    go_quiet (fail)
    go_wp2_with fail
    go_ret3
    exact GetP_mk HD.out rfl ((Frm.refl _ _).drewN _)
  · have hB := and128_hi c (by omega)
    have hk0 : k = 0 := by omega
    subst hk0
    clear hk hc
    go_enter Try.func85, Try.ntmps85
    go_wp2_with fail
    go_quiet (fail)
    go_wp2_with fail
    go_ret3
    exact GetP_mk HD.out rfl ((Frm.refl _ _).drewN _)

set_option maxRecDepth 100000 in
set_option maxHeartbeats 400000 in
theorem get_pos (c : UInt8) (r : List UInt8) (w : World) (h : r.length ≤ 281474976710656) (hc : c.toNat < 128) (h7 : c.toNat % 128 ≤ 7) (_hne : c.toNat ≠ 128) :
    Calls Try.prog 85 #[.string ⟨(c :: r).toArray⟩] w (GetP (c :: r) w) := by
  have hdd : Oct.dec (c :: r) = if r.length < c.toNat % 128 then (0, 0, 3)
    else if 9007199254740992 < Oct.val (r.take (c.toNat % 128)) ∨ (0 < c.toNat % 128 ∧ r.head? = some 0) then (0, 0, 2)
    else (((Oct.val (r.take (c.toNat % 128)) : Int)), c.toNat % 128 + 1, 0) := by
    rw [Oct.dec, if_neg (by omega)]
    congr 2
    first | rw [if_pos (by omega)] | rw [if_neg (by omega)]
  have hA := andNot128 c
  have hB := and128_lo c hc
  obtain ⟨k, hk⟩ : ∃ k : Nat, c.toNat % 128 = k := ⟨_, rfl⟩
  rw [hk] at hA hdd h7
  
  clear hk hc
  by_cases hlen : r.length < k
  · rw [if_pos hlen] at hdd
    have HD := hid hdd
    clear hdd
    go_enter Try.func85, Try.ntmps85
    go_wp2_with fail
    go_quiet (fail)
    go_wp2_with fail
    all_goals
      go_ret3
      exact GetP_mk HD.out rfl ((Frm.refl _ _).drewN _)
  rw [if_neg hlen] at hdd
  have HD := hid hdd
  clear hdd
  go_enter Try.func85, Try.ntmps85
  go_wp2_with fail
  go_quiet (fail)
  go_wp2_with fail
  go_loop [7, 8] (fun n i => ∃ j : Nat, j ≤ k ∧ i = .int .i64 ((j : Int) + 1) ∧ n = .int .i64 (Oct.val (r.take j) : Int)) (fun _ i => (k + 1 - intOf i).toNat)
  case atStart => exact ⟨0, by omega, rfl, rfl⟩
  case round =>
    obtain ⟨j, hj, rfl, rfl⟩ := hrel
    have hv := Oct.val_lt (r.take j)
    have hvl : (r.take j).length = j := by simp; omega
    rw [hvl] at hv
    by_cases hjk : j < k
    · have hjr : j < r.length := by omega
      have hv2 : Oct.val (r.take j) < 281474976710656 := by
        have : 256 ^ j ≤ 256 ^ 6 := Nat.pow_le_pow_right (by omega) (by omega)
        omega
      have hor := or_byte (Oct.val (r.take j)) (r[j]).toNat hv2 (r[j]).toNat_lt
      have HV : Hid (Oct.val (r.take (j + 1)) = 256 * Oct.val (r.take j) + r[j].toNat) := by
        show _ = _
        rw [List.take_succ_eq_append_getElem hjr, Oct.val_snoc]
      have hrj : r[j].toNat < 256 := r[j].toNat_lt
      clear hv hvl
      generalize Oct.val (r.take j) = v at *
      go_wp2_with fail
      refine ⟨⟨j + 1, by omega, rfl, ?_⟩, by simp [intOf]; omega⟩
      rw [HV.out]
      exact congrArg (Value.int .i64) (by omega)
    · obtain rfl : j = k := by omega
      by_cases hbig : 9007199254740992 < Oct.val (r.take j)
      · have HD2 := hid (HD.out.trans (if_pos (Or.inl hbig)))
        clear hv hvl
        generalize Oct.val (r.take j) = v at *
        go_wp2_with fail
        go_ret3
        exact GetP_mk HD2.out rfl ((Frm.refl _ _).drewN _)
      · by_cases hj0 : j = 0
        · subst hj0
          have HD2 := hid (HD.out.trans (if_neg (by rintro (h | ⟨h, _⟩) <;> omega)))
          clear hv hvl
          have HV : Hid (Oct.val (r.take 0) = 0) := rfl
          go_wp2_with fail
          go_ret3
          exact GetP_mk HD2.out rfl ((Frm.refl _ _).drewN _)
        · obtain ⟨d, r, rfl⟩ : ∃ d r', r = d :: r' := by
            cases r with
            | nil => simp at hlen; omega
            | cons d r' => exact ⟨d, r', rfl⟩
          by_cases hd0 : d.toNat = 0
          · have HD2 := hid (HD.out.trans (if_pos (Or.inr ⟨by omega, by simp; exact UInt8.toNat_inj.1 hd0⟩)))
            clear hv hvl
            generalize Oct.val ((d :: r).take j) = v at *
            go_wp2_with fail
            go_ret3
            exact GetP_mk HD2.out rfl ((Frm.refl _ _).drewN _)
          · have HD2 := hid (HD.out.trans (if_neg (by
              rintro (h | ⟨_, h⟩)
              · omega
              · simp at h; exact hd0 (by rw [h]; rfl))))
            clear hv hvl
            have hdz : ((d.toNat : Int) == 0) = false := by simp; omega
            clear hd0
            generalize Oct.val ((d :: r).take j) = v at *
            go_wp2_with fail
            go_ret3
            exact GetP_mk HD2.out rfl ((Frm.refl _ _).drewN _)

set_option maxRecDepth 100000 in
set_option maxHeartbeats 400000 in
theorem get_neg (c : UInt8) (r : List UInt8) (w : World) (h : r.length ≤ 281474976710656) (hc : 128 ≤ c.toNat) (h7 : c.toNat % 128 ≤ 7) (hne : c.toNat ≠ 128) :
    Calls Try.prog 85 #[.string ⟨(c :: r).toArray⟩] w (GetP (c :: r) w) := by
  have hdd : Oct.dec (c :: r) = if r.length < c.toNat % 128 then (0, 0, 3)
    else if 9007199254740992 < Oct.val (r.take (c.toNat % 128)) ∨ (0 < c.toNat % 128 ∧ r.head? = some 0) then (0, 0, 2)
    else ((-(Oct.val (r.take (c.toNat % 128)) : Int)), c.toNat % 128 + 1, 0) := by
    rw [Oct.dec, if_neg (by omega)]
    congr 2
    first | rw [if_pos (by omega)] | rw [if_neg (by omega)]
  have hA := andNot128 c
  have hB := and128_hi c hc
  obtain ⟨k, hk⟩ : ∃ k : Nat, c.toNat % 128 = k := ⟨_, rfl⟩
  rw [hk] at hA hdd h7
  have hk1 : 1 ≤ k := by have := c.toNat_lt; omega
  have hk0 : ((k : Int) == 0) = false := by simp; omega
  clear hk hc
  by_cases hlen : r.length < k
  · rw [if_pos hlen] at hdd
    have HD := hid hdd
    clear hdd
    go_enter Try.func85, Try.ntmps85
    go_wp2_with fail
    go_quiet (fail)
    go_wp2_with fail
    all_goals
      go_ret3
      exact GetP_mk HD.out rfl ((Frm.refl _ _).drewN _)
  rw [if_neg hlen] at hdd
  have HD := hid hdd
  clear hdd
  go_enter Try.func85, Try.ntmps85
  go_wp2_with fail
  go_quiet (fail)
  go_wp2_with fail
  go_loop [7, 8] (fun n i => ∃ j : Nat, j ≤ k ∧ i = .int .i64 ((j : Int) + 1) ∧ n = .int .i64 (Oct.val (r.take j) : Int)) (fun _ i => (k + 1 - intOf i).toNat)
  case atStart => exact ⟨0, by omega, rfl, rfl⟩
  case round =>
    obtain ⟨j, hj, rfl, rfl⟩ := hrel
    have hv := Oct.val_lt (r.take j)
    have hvl : (r.take j).length = j := by simp; omega
    rw [hvl] at hv
    by_cases hjk : j < k
    · have hjr : j < r.length := by omega
      have hv2 : Oct.val (r.take j) < 281474976710656 := by
        have : 256 ^ j ≤ 256 ^ 6 := Nat.pow_le_pow_right (by omega) (by omega)
        omega
      have hor := or_byte (Oct.val (r.take j)) (r[j]).toNat hv2 (r[j]).toNat_lt
      have HV : Hid (Oct.val (r.take (j + 1)) = 256 * Oct.val (r.take j) + r[j].toNat) := by
        show _ = _
        rw [List.take_succ_eq_append_getElem hjr, Oct.val_snoc]
      have hrj : r[j].toNat < 256 := r[j].toNat_lt
      clear hv hvl
      generalize Oct.val (r.take j) = v at *
      go_wp2_with fail
      refine ⟨⟨j + 1, by omega, rfl, ?_⟩, by simp [intOf]; omega⟩
      rw [HV.out]
      exact congrArg (Value.int .i64) (by omega)
    · obtain rfl : j = k := by omega
      by_cases hbig : 9007199254740992 < Oct.val (r.take j)
      · have HD2 := hid (HD.out.trans (if_pos (Or.inl hbig)))
        clear hv hvl
        generalize Oct.val (r.take j) = v at *
        go_wp2_with fail
        go_ret3
        exact GetP_mk HD2.out rfl ((Frm.refl _ _).drewN _)
      · by_cases hj0 : j = 0
        · exfalso; omega
        · obtain ⟨d, r, rfl⟩ : ∃ d r', r = d :: r' := by
            cases r with
            | nil => simp at hlen; omega
            | cons d r' => exact ⟨d, r', rfl⟩
          by_cases hd0 : d.toNat = 0
          · have HD2 := hid (HD.out.trans (if_pos (Or.inr ⟨by omega, by simp; exact UInt8.toNat_inj.1 hd0⟩)))
            clear hv hvl
            generalize Oct.val ((d :: r).take j) = v at *
            go_wp2_with fail
            go_ret3
            exact GetP_mk HD2.out rfl ((Frm.refl _ _).drewN _)
          · have HD2 := hid (HD.out.trans (if_neg (by
              rintro (h | ⟨_, h⟩)
              · omega
              · simp at h; exact hd0 (by rw [h]; rfl))))
            clear hv hvl
            have hdz : ((d.toNat : Int) == 0) = false := by simp; omega
            clear hd0
            generalize Oct.val ((d :: r).take j) = v at *
            go_wp2_with fail
            go_ret3
            exact GetP_mk HD2.out rfl ((Frm.refl _ _).drewN _)

/-- octets.Get reads the number at the beginning of bytes. -/
theorem get_any (l : List UInt8) (w : World) (h : l.length ≤ 281474976710656) : Calls Try.prog 85 #[.string ⟨l.toArray⟩] w (GetP l w) := by
  cases l with
  | nil => exact get_nil w
  | cons c r =>
    have hr : r.length ≤ 281474976710656 := by simp at h; omega
    by_cases hc : 7 < c.toNat % 128 ∨ c.toNat = 128
    · exact get_form c r w hr hc
    · rcases Nat.lt_or_ge c.toNat 128 with h8 | h8
      · exact get_pos c r w hr h8 (by omega) (by omega)
      · exact get_neg c r w hr h8 (by omega) (by omega)
end Go.Proofs.Ytekailaoanpcgaa
