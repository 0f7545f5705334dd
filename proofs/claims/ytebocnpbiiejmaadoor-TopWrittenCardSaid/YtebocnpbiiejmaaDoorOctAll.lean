/- The walks of octets.Put and of the reference's Put. The walk of the reference's Put. The walk of octets.Get. The walk of the reference's Get. -/
import Derived.Test.YtebocnpbiiejmaaDoorLib
import Derived.Test.YtebocnpbiiejmaaDoorPlainOct
import Derived.Test.YtebocnpbiiejmaaDoorShelf
import Derived.Deep.QuietTactic
import Derived.BigQuiet
import Derived.Deep.RegionWith
namespace Go.Proofs.YtebocnpbiiejmaaDoor
open Go.RowKit
theorem info_u8 : (Tryd.prog.info? 5).map (fun i => (i.zero, i.size, i.bytes)) = some (some (.int .u8 0), 1, 1) := by kernel_rfl

theorem put_step (h : UInt8) (k m j : Nat) (hj : j + 1 ≤ k) :
    bytesV (h :: Oct.be (k - (j + 1)) (m / 256 ^ (j + 1))) ++ [Value.int .u8 ((m : Int) / 2 ^ (8 * j) % 256)] = bytesV (h :: Oct.be (k - j) (m / 256 ^ j)) := by
  obtain ⟨i, rfl⟩ : ∃ i, k = j + 1 + i := ⟨k - (j + 1), by omega⟩
  have e1 : j + 1 + i - (j + 1) = i := by omega
  have e2 : j + 1 + i - j = i + 1 := by omega
  have e3 : m / 256 ^ j / 256 = m / 256 ^ (j + 1) := by rw [Nat.div_div_eq_div_mul, Nat.pow_succ]
  have e4 : (m : Int) / 2 ^ (8 * j) % 256 = ((UInt8.ofNat (m / 256 ^ j)).toNat : Int) := by
    have h2 : (2 : Int) ^ (8 * j) = (256 : Int) ^ j := by
      rw [Int.pow_mul]
      exact congrArg (fun x : Int => x ^ j) (by decide)
    rw [h2, UInt8.toNat_ofNat', Int.natCast_emod, Int.natCast_ediv, Int.natCast_pow]
    rfl
  rw [e1, e2, Oct.be, e3, e4, ← List.cons_append, bytesV_append]
  rfl

theorem len_any (n : Int) (w : World) (h0 : 0 ≤ n) (h1 : n ≤ 18446744073709551615) :
    Calls Tryd.prog 72 #[.int .u64 n] w fun e w' => e = .returned (.int .i64 (Lib.bitLen n.toNat)) ∧ w = w' := (Tryd.bits_Len n w h0 h1).mono fun _ _ ⟨a, b⟩ => ⟨a, b.symm⟩

set_option maxRecDepth 100000 in
set_option maxHeartbeats 400000 in
theorem put_pos (m : Nat) (w : World) (h1 : 0 ≤ m) (h2 : m ≤ 9007199254740992) :
    Calls Tryd.prog 55 #[.int .i64 (m : Int)] w fun e w' => e = .returned (.string ⟨(Oct.enc (m : Int)).toArray⟩) ∧ Frm No w w' := by
  have hk1 := Oct.bitLen_klen m (by omega)
  have hk2 := Oct.klen_le m (by omega)
  have henc := Oct.enc_in (n := (m : Int)) (by omega) (by omega)
  obtain ⟨k, hk⟩ : ∃ k : Nat, Oct.klen m = k := ⟨_, rfl⟩
  have hk3 : ((Lib.bitLen m : Int) + 7) / 8 = k := by omega
  rw [show (m : Int).natAbs = m from by omega, hk] at henc
  rw [decide_eq_false (by omega)] at henc
  rw [hk] at hk2
  have HENC := hid henc
  clear hk hk1 henc
  have hor : bits BinOp.or IntKind.u8 0 (k : Int) = ((Oct.hdr false k).toNat : Int) := by
    have : ∀ j : Fin 8, bits BinOp.or IntKind.u8 0 (j.val : Int) = ((Oct.hdr false j.val).toNat : Int) := by decide +kernel
    exact this ⟨k, by omega⟩
  obtain ⟨i0, hi, hz0, hz1, hz2⟩ := info_parts info_u8
  go_enter Tryd.func55, Tryd.ntmps55
  go_wp2_with (first | (go_at_call 72; refine (len_any _ _ (by omega) (by omega)).mono ?_; rintro e w' ⟨rfl, rfl⟩) | (at_make; refine wpList_make_own _ rfl _ _ 54 rfl w.heap.size 5 i0 (.int .u8 0) 1 Tryd.underlying54 hi hz0 hz1 .i64 .i64 _ (k + 1) rfl rfl rfl (by rw [hz2]; omega) (by unfold maxLen; omega) (by simp) ?_; intro w1 hown hgrow) | (at_builtin; refine wpList_push1 _ rfl _ _ 54 rfl w.heap.size 5 i0 _ 1 Tryd.underlying54 hi hz0 hz1 hz2 rfl _ 0 [] rfl hown _ rfl rfl (by omega) (by omega) (by have := hgrow.size; omega) ?_; intro v1 w2 hown1 hf1 hv1 hs1; clear hown))
  have hno : ∀ i, i < w.heap.size → Own (Value.slice (some ⟨w.heap.size, 0, none⟩) 0 (k + 1)) i → No i := by
    intro i hi h; simp [Own, Value.ownBlock] at h; omega
  go_loopw [5, 6] (fun v i wr => ∃ j : Nat, j ≤ k ∧ i = .int .i64 ((j : Int) - 1) ∧ wr.ownsRow w.heap.size 5 1 v (1 + (k - j)) (bytesV (Oct.hdr false k :: Oct.be (k - j) (m / 256 ^ j))) ∧ Frm No w wr)
    (fun _ i _ => (intOf i + 1).toNat)
  case atStart => exact ⟨k, by omega, rfl, by rw [Nat.sub_self]; exact hown1, ((Frm.ofGrown hgrow (fun _ e => by cases e)).then_ hf1).weak hno⟩
  case round =>
    obtain ⟨j, hj, rfl, hownr, hf⟩ := hrel
    have hsz := hf.size
    by_cases h0 : j = 0
    · subst h0
      have hcv := run_convert_own (P := Tryd.prog) Tryd.underlying54 Tryd.underlying5 Tryd.underlying9 hownr
      rw [show ((0 : Nat) : Int) - 1 = -1 from rfl]
      go_wp2_with fail
      go_ret
      rw [HENC.out]
      exact ⟨rfl, hf⟩
    · obtain ⟨j, rfl⟩ : ∃ i, j = i + 1 := ⟨j - 1, by omega⟩
      rw [show ((j + 1 : Nat) : Int) - 1 = (j : Int) from by omega]
      go_wp2_with (at_builtin; refine wpList_push1 _ rfl _ _ 54 rfl w.heap.size 5 i0 _ 1 Tryd.underlying54 hi hz0 hz1 hz2 rfl _ _ _ rfl hownr _ rfl rfl (by omega) (by omega) (by omega) ?_; intro v2 w3 hown2 hf2 hv2 hs2)
      refine ⟨⟨j, by omega, rfl, ?_, hf.trans hf2 (fun _ _ h => h) (fun i hi h => ?_)⟩, by simp [intOf]⟩
      · rw [put_step _ _ _ _ hj] at hown2
        rw [show 1 + (k - j) = 1 + (k - (j + 1)) + 1 from by omega]
        exact hown2
      · have := hownr.lt _ h
        omega

set_option maxRecDepth 100000 in
set_option maxHeartbeats 400000 in
theorem put_neg (m : Nat) (w : World) (h1 : 1 ≤ m) (h2 : m ≤ 9007199254740992) :
    Calls Tryd.prog 55 #[.int .i64 (-m : Int)] w fun e w' => e = .returned (.string ⟨(Oct.enc (-m : Int)).toArray⟩) ∧ Frm No w w' := by
  have hk1 := Oct.bitLen_klen m (by omega)
  have hk2 := Oct.klen_le m (by omega)
  have henc := Oct.enc_in (n := (-m : Int)) (by omega) (by omega)
  obtain ⟨k, hk⟩ : ∃ k : Nat, Oct.klen m = k := ⟨_, rfl⟩
  have hk3 : ((Lib.bitLen m : Int) + 7) / 8 = k := by omega
  rw [show (-m : Int).natAbs = m from by omega, hk] at henc
  rw [decide_eq_true (by omega)] at henc
  rw [hk] at hk2
  have HENC := hid henc
  clear hk hk1 henc
  have hor : bits BinOp.or IntKind.u8 128 (k : Int) = ((Oct.hdr true k).toNat : Int) := by
    have : ∀ j : Fin 8, bits BinOp.or IntKind.u8 128 (j.val : Int) = ((Oct.hdr true j.val).toNat : Int) := by decide +kernel
    exact this ⟨k, by omega⟩
  obtain ⟨i0, hi, hz0, hz1, hz2⟩ := info_parts info_u8
  go_enter Tryd.func55, Tryd.ntmps55
  go_wp2_with (first | (go_at_call 72; refine (len_any _ _ (by omega) (by omega)).mono ?_; rintro e w' ⟨rfl, rfl⟩) | (at_make; refine wpList_make_own _ rfl _ _ 54 rfl w.heap.size 5 i0 (.int .u8 0) 1 Tryd.underlying54 hi hz0 hz1 .i64 .i64 _ (k + 1) rfl rfl rfl (by rw [hz2]; omega) (by unfold maxLen; omega) (by simp) ?_; intro w1 hown hgrow) | (at_builtin; refine wpList_push1 _ rfl _ _ 54 rfl w.heap.size 5 i0 _ 1 Tryd.underlying54 hi hz0 hz1 hz2 rfl _ 0 [] rfl hown _ rfl rfl (by omega) (by omega) (by have := hgrow.size; omega) ?_; intro v1 w2 hown1 hf1 hv1 hs1; clear hown))
  have hno : ∀ i, i < w.heap.size → Own (Value.slice (some ⟨w.heap.size, 0, none⟩) 0 (k + 1)) i → No i := by
    intro i hi h; simp [Own, Value.ownBlock] at h; omega
  go_loopw [5, 6] (fun v i wr => ∃ j : Nat, j ≤ k ∧ i = .int .i64 ((j : Int) - 1) ∧ wr.ownsRow w.heap.size 5 1 v (1 + (k - j)) (bytesV (Oct.hdr true k :: Oct.be (k - j) (m / 256 ^ j))) ∧ Frm No w wr)
    (fun _ i _ => (intOf i + 1).toNat)
  case atStart => exact ⟨k, by omega, rfl, by rw [Nat.sub_self]; exact hown1, ((Frm.ofGrown hgrow (fun _ e => by cases e)).then_ hf1).weak hno⟩
  case round =>
    obtain ⟨j, hj, rfl, hownr, hf⟩ := hrel
    have hsz := hf.size
    by_cases h0 : j = 0
    · subst h0
      have hcv := run_convert_own (P := Tryd.prog) Tryd.underlying54 Tryd.underlying5 Tryd.underlying9 hownr
      rw [show ((0 : Nat) : Int) - 1 = -1 from rfl]
      go_wp2_with fail
      go_ret
      rw [HENC.out]
      exact ⟨rfl, hf⟩
    · obtain ⟨j, rfl⟩ : ∃ i, j = i + 1 := ⟨j - 1, by omega⟩
      rw [show ((j + 1 : Nat) : Int) - 1 = (j : Int) from by omega]
      go_wp2_with (at_builtin; refine wpList_push1 _ rfl _ _ 54 rfl w.heap.size 5 i0 _ 1 Tryd.underlying54 hi hz0 hz1 hz2 rfl _ _ _ rfl hownr _ rfl rfl (by omega) (by omega) (by omega) ?_; intro v2 w3 hown2 hf2 hv2 hs2)
      refine ⟨⟨j, by omega, rfl, ?_, hf.trans hf2 (fun _ _ h => h) (fun i hi h => ?_)⟩, by simp [intOf]⟩
      · rw [put_step _ _ _ _ hj] at hown2
        rw [show 1 + (k - j) = 1 + (k - (j + 1)) + 1 from by omega]
        exact hown2
      · have := hownr.lt _ h
        omega

set_option maxRecDepth 100000 in
theorem put_out (n : Int) (w : World) (h : n < -9007199254740992 ∨ 9007199254740992 < n) :
    Calls Tryd.prog 55 #[.int .i64 n] w fun e w' => e = .returned (.string ⟨(Oct.enc n).toArray⟩) ∧ Frm No w w' := by
  have HENC := hid (Oct.enc_out h)
  rcases h with h | h
  · go_enter Tryd.func55, Tryd.ntmps55
    go_wp2_with fail
    go_ret
    rw [HENC.out]
    exact ⟨rfl, Frm.refl _ _⟩
  · go_enter Tryd.func55, Tryd.ntmps55
    go_wp2_with fail
    go_ret
    rw [HENC.out]
    exact ⟨rfl, Frm.refl _ _⟩

/-- octets.Put returns the number's bytes. -/
theorem put_any (n : Int) (w : World) :
    Calls Tryd.prog 55 #[.int .i64 n] w fun e w' => e = .returned (.string ⟨(Oct.enc n).toArray⟩) ∧ Frm No w w' := by
  by_cases h : n < -9007199254740992 ∨ 9007199254740992 < n
  · exact put_out n w h
  · rcases Int.lt_or_le n 0 with h0 | h0
    · obtain ⟨m, rfl⟩ : ∃ m : Nat, n = -(m : Int) := ⟨n.natAbs, by omega⟩
      exact put_neg m w (by omega) (by omega)
    · obtain ⟨m, rfl⟩ := Int.eq_ofNat_of_zero_le h0
      exact put_pos m w (by omega) (by omega)
end Go.Proofs.YtebocnpbiiejmaaDoor

namespace Go.Proofs.YtebocnpbiiejmaaDoor
open Go.RowKit

end Go.Proofs.YtebocnpbiiejmaaDoor

namespace Go.Proofs.YtebocnpbiiejmaaDoor
open Go.RowKit

theorem andNot128 (c : UInt8) : bits BinOp.andNot IntKind.u8 (c.toNat : Int) 128 = ((c.toNat % 128 : Nat) : Int) := by
  have : ∀ j : Fin 256, bits BinOp.andNot IntKind.u8 (j.val : Int) 128 = ((j.val % 128 : Nat) : Int) := by decide +kernel
  exact this ⟨c.toNat, c.toNat_lt⟩
theorem and128_lo (c : UInt8) (h : c.toNat < 128) : bits BinOp.and IntKind.u8 (c.toNat : Int) 128 = 0 := by
  have : ∀ j : Fin 128, bits BinOp.and IntKind.u8 (j.val : Int) 128 = 0 := by decide +kernel
  exact this ⟨c.toNat, h⟩
theorem and128_hi (c : UInt8) (h : 128 ≤ c.toNat) : bits BinOp.and IntKind.u8 (c.toNat : Int) 128 = 128 := by
  have : ∀ j : Fin 128, bits BinOp.and IntKind.u8 ((j.val + 128 : Nat) : Int) 128 = 128 := by decide +kernel
  have := this ⟨c.toNat - 128, by have := c.toNat_lt; omega⟩
  simpa [show c.toNat - 128 + 128 = c.toNat from by omega] using this
theorem or_byte (x b : Nat) (hx : x < 281474976710656) (hb : b < 256) : bits BinOp.or IntKind.i64 ((x : Int) * 256) (b : Int) = ((256 * x + b : Nat) : Int) := by
  rw [bits_join .i64 63 (by decide) (fun n h0 h1 => IntWalk.i64_in n (by omega)) 8 ((x : Int) * 256) (b : Int) (by omega) (by omega) (by omega) (by omega) (by omega) (by omega)]
  omega

def GetP (l : List UInt8) (w : World) (e : Ending) (w' : World) : Prop :=
  e = .returned (.tuple #[.int .i64 (Oct.dec l).1, .int .i64 ((Oct.dec l).2.1 : Nat), .int .i64 (Oct.dec l).2.2]) ∧ Frm No w w'
theorem GetP_mk {l : List UInt8} {w : World} {n : Int} {k : Nat} {e : Int} {r : Ending} {w' : World} (hd : Oct.dec l = (n, k, e)) (hr : r = .returned (.tuple #[.int .i64 n, .int .i64 (k : Int), .int .i64 e])) (hf : Frm No w w') : GetP l w r w' := by
  subst hr
  refine ⟨?_, hf⟩
  rw [hd]

theorem get_nil (w : World) : Calls Tryd.prog 53 #[.string ⟨([] : List UInt8).toArray⟩] w (GetP [] w) := by
  go_enter Tryd.func53, Tryd.ntmps53
  go_wp2_with fail
  go_ret3
  exact GetP_mk (n := 0) (k := 0) (e := 3) rfl rfl (Frm.refl _ _)

set_option maxRecDepth 100000 in
set_option maxHeartbeats 400000 in
theorem get_form (c : UInt8) (r : List UInt8) (w : World) (_h : r.length ≤ 281474976710656) (hc : 7 < c.toNat % 128 ∨ c.toNat = 128) :
    Calls Tryd.prog 53 #[.string ⟨(c :: r).toArray⟩] w (GetP (c :: r) w) := by
  have hd : Oct.dec (c :: r) = (0, 0, 2) := by rw [Oct.dec, if_pos hc]
  have HD := hid hd
  have hA := andNot128 c
  clear hd
  obtain ⟨k, hk⟩ : ∃ k : Nat, c.toNat % 128 = k := ⟨_, rfl⟩
  rw [hk] at hA
  rcases hc with hc | hc
  · rw [hk] at hc
    have hk8 : k ≤ 127 := by omega
    clear hk
    go_enter Tryd.func53, Tryd.ntmps53
    go_wp2_with fail
    go_quiet (fail)
    go_wp2_with fail
    go_ret3
    exact GetP_mk HD.out rfl ((Frm.refl _ _).drewN _)
  · have hB := and128_hi c (by omega)
    have hk0 : k = 0 := by omega
    subst hk0
    clear hk hc
    go_enter Tryd.func53, Tryd.ntmps53
    go_wp2_with fail
    go_quiet (fail)
    go_wp2_with fail
    go_ret3
    exact GetP_mk HD.out rfl ((Frm.refl _ _).drewN _)

set_option maxRecDepth 100000 in
set_option maxHeartbeats 400000 in
theorem get_pos (c : UInt8) (r : List UInt8) (w : World) (h : r.length ≤ 281474976710656) (hc : c.toNat < 128) (h7 : c.toNat % 128 ≤ 7) (_hne : c.toNat ≠ 128) :
    Calls Tryd.prog 53 #[.string ⟨(c :: r).toArray⟩] w (GetP (c :: r) w) := by
  have hdd : Oct.dec (c :: r) = if r.length < c.toNat % 128 then (0, 0, 3)
    else if 9007199254740992 < Oct.val (r.take (c.toNat % 128)) ∨ (0 < c.toNat % 128 ∧ r.head? = some 0) then (0, 0, 2)
    else (((Oct.val (r.take (c.toNat % 128)) : Int)), c.toNat % 128 + 1, 0) := by
    rw [Oct.dec, if_neg (by omega)]
    congr 2
    first | rw [if_pos (by omega)] | rw [if_neg (by omega)]
  have hA := andNot128 c
  have hB := and128_lo c hc
  obtain ⟨k, hk⟩ : ∃ k : Nat, c.toNat % 128 = k := ⟨_, rfl⟩
  rw [hk] at hA hdd h7
  
  clear hk hc
  by_cases hlen : r.length < k
  · rw [if_pos hlen] at hdd
    have HD := hid hdd
    clear hdd
    go_enter Tryd.func53, Tryd.ntmps53
    go_wp2_with fail
    go_quiet (fail)
    go_wp2_with fail
    all_goals
      go_ret3
      exact GetP_mk HD.out rfl ((Frm.refl _ _).drewN _)
  rw [if_neg hlen] at hdd
  have HD := hid hdd
  clear hdd
  go_enter Tryd.func53, Tryd.ntmps53
  go_wp2_with fail
  go_quiet (fail)
  go_wp2_with fail
  go_loop [7, 8] (fun n i => ∃ j : Nat, j ≤ k ∧ i = .int .i64 ((j : Int) + 1) ∧ n = .int .i64 (Oct.val (r.take j) : Int)) (fun _ i => (k + 1 - intOf i).toNat)
  case atStart => exact ⟨0, by omega, rfl, rfl⟩
  case round =>
    obtain ⟨j, hj, rfl, rfl⟩ := hrel
    have hv := Oct.val_lt (r.take j)
    have hvl : (r.take j).length = j := by simp; omega
    rw [hvl] at hv
    by_cases hjk : j < k
    · have hjr : j < r.length := by omega
      have hv2 : Oct.val (r.take j) < 281474976710656 := by
        have : 256 ^ j ≤ 256 ^ 6 := Nat.pow_le_pow_right (by omega) (by omega)
        omega
      have hor := or_byte (Oct.val (r.take j)) (r[j]).toNat hv2 (r[j]).toNat_lt
      have HV : Hid (Oct.val (r.take (j + 1)) = 256 * Oct.val (r.take j) + r[j].toNat) := by
        show _ = _
        rw [List.take_succ_eq_append_getElem hjr, Oct.val_snoc]
      have hrj : r[j].toNat < 256 := r[j].toNat_lt
      clear hv hvl
      generalize Oct.val (r.take j) = v at *
      go_wp2_with fail
      refine ⟨⟨j + 1, by omega, rfl, ?_⟩, by simp [intOf]; omega⟩
      rw [HV.out]
      exact congrArg (Value.int .i64) (by omega)
    · obtain rfl : j = k := by omega
      by_cases hbig : 9007199254740992 < Oct.val (r.take j)
      · have HD2 := hid (HD.out.trans (if_pos (Or.inl hbig)))
        clear hv hvl
        generalize Oct.val (r.take j) = v at *
        go_wp2_with fail
        go_ret3
        exact GetP_mk HD2.out rfl ((Frm.refl _ _).drewN _)
      · by_cases hj0 : j = 0
        · subst hj0
          have HD2 := hid (HD.out.trans (if_neg (by rintro (h | ⟨h, _⟩) <;> omega)))
          clear hv hvl
          have HV : Hid (Oct.val (r.take 0) = 0) := rfl
          go_wp2_with fail
          go_ret3
          exact GetP_mk HD2.out rfl ((Frm.refl _ _).drewN _)
        · obtain ⟨d, r, rfl⟩ : ∃ d r', r = d :: r' := by
            cases r with
            | nil => simp at hlen; omega
            | cons d r' => exact ⟨d, r', rfl⟩
          by_cases hd0 : d.toNat = 0
          · have HD2 := hid (HD.out.trans (if_pos (Or.inr ⟨by omega, by simp; exact UInt8.toNat_inj.1 hd0⟩)))
            clear hv hvl
            generalize Oct.val ((d :: r).take j) = v at *
            go_wp2_with fail
            go_ret3
            exact GetP_mk HD2.out rfl ((Frm.refl _ _).drewN _)
          · have HD2 := hid (HD.out.trans (if_neg (by
              rintro (h | ⟨_, h⟩)
              · omega
              · simp at h; exact hd0 (by rw [h]; rfl))))
            clear hv hvl
            have hdz : ((d.toNat : Int) == 0) = false := by simp; omega
            clear hd0
            generalize Oct.val ((d :: r).take j) = v at *
            go_wp2_with fail
            go_ret3
            exact GetP_mk HD2.out rfl ((Frm.refl _ _).drewN _)

set_option maxRecDepth 100000 in
set_option maxHeartbeats 400000 in
theorem get_neg (c : UInt8) (r : List UInt8) (w : World) (h : r.length ≤ 281474976710656) (hc : 128 ≤ c.toNat) (h7 : c.toNat % 128 ≤ 7) (hne : c.toNat ≠ 128) :
    Calls Tryd.prog 53 #[.string ⟨(c :: r).toArray⟩] w (GetP (c :: r) w) := by
  have hdd : Oct.dec (c :: r) = if r.length < c.toNat % 128 then (0, 0, 3)
    else if 9007199254740992 < Oct.val (r.take (c.toNat % 128)) ∨ (0 < c.toNat % 128 ∧ r.head? = some 0) then (0, 0, 2)
    else ((-(Oct.val (r.take (c.toNat % 128)) : Int)), c.toNat % 128 + 1, 0) := by
    rw [Oct.dec, if_neg (by omega)]
    congr 2
    first | rw [if_pos (by omega)] | rw [if_neg (by omega)]
  have hA := andNot128 c
  have hB := and128_hi c hc
  obtain ⟨k, hk⟩ : ∃ k : Nat, c.toNat % 128 = k := ⟨_, rfl⟩
  rw [hk] at hA hdd h7
  have hk1 : 1 ≤ k := by have := c.toNat_lt; omega
  have hk0 : ((k : Int) == 0) = false := by simp; omega
  clear hk hc
  by_cases hlen : r.length < k
  · rw [if_pos hlen] at hdd
    have HD := hid hdd
    clear hdd
    go_enter Tryd.func53, Tryd.ntmps53
    go_wp2_with fail
    go_quiet (fail)
    go_wp2_with fail
    all_goals
      go_ret3
      exact GetP_mk HD.out rfl ((Frm.refl _ _).drewN _)
  rw [if_neg hlen] at hdd
  have HD := hid hdd
  clear hdd
  go_enter Tryd.func53, Tryd.ntmps53
  go_wp2_with fail
  go_quiet (fail)
  go_wp2_with fail
  go_loop [7, 8] (fun n i => ∃ j : Nat, j ≤ k ∧ i = .int .i64 ((j : Int) + 1) ∧ n = .int .i64 (Oct.val (r.take j) : Int)) (fun _ i => (k + 1 - intOf i).toNat)
  case atStart => exact ⟨0, by omega, rfl, rfl⟩
  case round =>
    obtain ⟨j, hj, rfl, rfl⟩ := hrel
    have hv := Oct.val_lt (r.take j)
    have hvl : (r.take j).length = j := by simp; omega
    rw [hvl] at hv
    by_cases hjk : j < k
    · have hjr : j < r.length := by omega
      have hv2 : Oct.val (r.take j) < 281474976710656 := by
        have : 256 ^ j ≤ 256 ^ 6 := Nat.pow_le_pow_right (by omega) (by omega)
        omega
      have hor := or_byte (Oct.val (r.take j)) (r[j]).toNat hv2 (r[j]).toNat_lt
      have HV : Hid (Oct.val (r.take (j + 1)) = 256 * Oct.val (r.take j) + r[j].toNat) := by
        show _ = _
        rw [List.take_succ_eq_append_getElem hjr, Oct.val_snoc]
      have hrj : r[j].toNat < 256 := r[j].toNat_lt
      clear hv hvl
      generalize Oct.val (r.take j) = v at *
      go_wp2_with fail
      refine ⟨⟨j + 1, by omega, rfl, ?_⟩, by simp [intOf]; omega⟩
      rw [HV.out]
      exact congrArg (Value.int .i64) (by omega)
    · obtain rfl : j = k := by omega
      by_cases hbig : 9007199254740992 < Oct.val (r.take j)
      · have HD2 := hid (HD.out.trans (if_pos (Or.inl hbig)))
        clear hv hvl
        generalize Oct.val (r.take j) = v at *
        go_wp2_with fail
        go_ret3
        exact GetP_mk HD2.out rfl ((Frm.refl _ _).drewN _)
      · by_cases hj0 : j = 0
        · exfalso; omega
        · obtain ⟨d, r, rfl⟩ : ∃ d r', r = d :: r' := by
            cases r with
            | nil => simp at hlen; omega
            | cons d r' => exact ⟨d, r', rfl⟩
          by_cases hd0 : d.toNat = 0
          · have HD2 := hid (HD.out.trans (if_pos (Or.inr ⟨by omega, by simp; exact UInt8.toNat_inj.1 hd0⟩)))
            clear hv hvl
            generalize Oct.val ((d :: r).take j) = v at *
            go_wp2_with fail
            go_ret3
            exact GetP_mk HD2.out rfl ((Frm.refl _ _).drewN _)
          · have HD2 := hid (HD.out.trans (if_neg (by
              rintro (h | ⟨_, h⟩)
              · omega
              · simp at h; exact hd0 (by rw [h]; rfl))))
            clear hv hvl
            have hdz : ((d.toNat : Int) == 0) = false := by simp; omega
            clear hd0
            generalize Oct.val ((d :: r).take j) = v at *
            go_wp2_with fail
            go_ret3
            exact GetP_mk HD2.out rfl ((Frm.refl _ _).drewN _)

/-- octets.Get reads the number at the beginning of bytes. -/
theorem get_any (l : List UInt8) (w : World) (h : l.length ≤ 281474976710656) : Calls Tryd.prog 53 #[.string ⟨l.toArray⟩] w (GetP l w) := by
  cases l with
  | nil => exact get_nil w
  | cons c r =>
    have hr : r.length ≤ 281474976710656 := by simp at h; omega
    by_cases hc : 7 < c.toNat % 128 ∨ c.toNat = 128
    · exact get_form c r w hr hc
    · rcases Nat.lt_or_ge c.toNat 128 with h8 | h8
      · exact get_pos c r w hr h8 (by omega) (by omega)
      · exact get_neg c r w hr h8 (by omega) (by omega)
end Go.Proofs.YtebocnpbiiejmaaDoor

namespace Go.Proofs.YtebocnpbiiejmaaDoor
open Go.RowKit

end Go.Proofs.YtebocnpbiiejmaaDoor
