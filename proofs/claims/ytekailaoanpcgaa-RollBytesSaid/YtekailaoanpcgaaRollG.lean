/- Where a name stands in a sorted list of names; whether it is there. -/
import Derived.Test.YtekailaoanpcgaaRollD
namespace Go.Proofs.Ytekailaoanpcgaa
open Go.RowKit
open Roll

theorem isnan1_any (s : B) (w : World) : Calls Try.prog 95 #[.string ⟨s.toArray⟩] w fun e w' => e = .returned (.bool false) ∧ w = w' := by
  go_enter Try.func95, Try.ntmps95
  go_wp2_with fail
  go_ret
  exact ⟨by simp, rfl⟩
theorem isnan2_any (s : B) (w : World) : Calls Try.prog 68 #[.string ⟨s.toArray⟩] w fun e w' => e = .returned (.bool false) ∧ w = w' := by
  go_enter Try.func68, Try.ntmps68
  go_wp2_with fail
  go_ret
  exact ⟨by simp, rfl⟩
theorem less_any (a b : B) (w : World) : Calls Try.prog 67 #[.string ⟨a.toArray⟩, .string ⟨b.toArray⟩] w fun e w' => e = .returned (.bool (decide (a < b))) ∧ w = w' := by
  have HL := hid (less_eq a b)
  go_enter Try.func67, Try.ntmps67
  go_wp2_with (go_at_call 95; refine (isnan1_any _ _).mono ?_; rintro e w1 ⟨rfl, rfl⟩)
  go_ret
  exact ⟨by rw [← HL.out]; simp, rfl⟩
set_option maxRecDepth 100000 in
set_option maxHeartbeats 1000000 in
theorem bss_any (l : List B) (v : Value) (n : B) (w : World) (hv : RdL w v 1 strV l) (hs : Srt id l) (hl : l.length ≤ 1000000) :
    Calls Try.prog 25 #[v, .string ⟨n.toArray⟩] w fun e w' =>
      e = .returned (.tuple #[.int .i64 ((place id l n : Nat) : Int), .bool (has id l n)]) ∧ w = w' := by
  obtain ⟨ao, c, rfl⟩ := hv.shape
  have HLT := hid (fun t (ht : t < l.length) => lt_place (n := n) hs t ht)
  have hp := @place_le _ id l n
  have HH := hid (has_opt (n := n) hs)
  obtain ⟨p, hpe⟩ : ∃ p, place id l n = p := ⟨_, rfl⟩
  simp only [hpe] at HLT hp HH ⊢
  clear hs hpe
  obtain ⟨hh, hhe⟩ : ∃ hh, has id l n = hh := ⟨_, rfl⟩
  rw [hhe] at HH ⊢
  clear hhe
  go_enter Try.func25, Try.ntmps25
  go_wp2_with fail
  go_loopw [7, 8, 9] (fun i j _ wr => ∃ lo hi : Nat, i = .int .i64 (lo : Int) ∧ j = .int .i64 (hi : Int) ∧ lo ≤ p ∧ p ≤ hi ∧ hi ≤ l.length ∧ w = wr)
    (fun i j _ _ => (intOf j).toNat - (intOf i).toNat)
  case atStart => exact ⟨0, l.length, rfl, rfl, Nat.zero_le _, hp, Nat.le_refl _, rfl⟩
  case round =>
    obtain ⟨lo, hi, rfl, rfl, h1, h2, h3, rfl⟩ := hrel
    by_cases hlt : lo < hi
    · obtain ⟨b, o, rfl, hc⟩ := hv.at_ (by omega)
      have hml : (lo + hi) / 2 < l.length := by omega
      have q := hc ((lo + hi) / 2) hml 0 (by omega)
      have HK := hid (HLT.out _ hml)
      obtain ⟨x, hxk⟩ : ∃ x, l[(lo + hi) / 2] = x := ⟨_, rfl⟩
      rw [hxk] at q HK
      simp only [strV, List.getElem?_cons_zero, Nat.mul_one, Nat.add_zero] at q
      have HX := hid (fun w1 => less_any x n w1)
      clear hc hv
      generalize hm : (lo + hi) / 2 = mid at *
      have hmi : ((lo : Int) + (hi : Int)) / 2 = (mid : Int) := by omega
      by_cases hlx : mid < p
      · have hd : decide (x < n) = true := by simpa using HK.out.1 hlx
        rw [hd] at HX
        clear hd
        go_wp2_with (go_at_call 67; refine (HX.out _).mono ?_; rintro e w1 ⟨rfl, rfl⟩)
        exact ⟨⟨mid + 1, hi, by go_num, rfl, by omega, h2, h3, trivial⟩, by simp only [intOf]; omega⟩
      · have hd : decide (x < n) = false := by simpa using fun h => hlx (HK.out.2 h)
        rw [hd] at HX
        clear hd
        go_wp2_with (go_at_call 67; refine (HX.out _).mono ?_; rintro e w1 ⟨rfl, rfl⟩)
        exact ⟨⟨lo, mid, rfl, by go_num, h1, by omega, by omega, trivial⟩, by simp only [intOf]; omega⟩
    · obtain rfl : lo = p := by omega
      by_cases hpl : lo < l.length
      · obtain ⟨b, o, rfl, hc⟩ := hv.at_ (by omega)
        have q := hc lo hpl 0 (by omega)
        have HQ : Hid (hh = decide (l[lo] = n)) := hid (by
          rw [Bool.eq_iff_iff, HH.out]
          simp [List.getElem?_eq_getElem hpl])
        obtain ⟨x, hxk⟩ : ∃ x, l[lo] = x := ⟨_, rfl⟩
        rw [hxk] at q HQ
        simp only [strV, List.getElem?_cons_zero, Nat.mul_one, Nat.add_zero] at q
        clear hc hv
        have hpz : (lo : Int) < (l.length : Int) := by omega
        by_cases hxn : x = n
        · subst hxn
          have hxx : (x == x) = true := by simp
          go_wp2_with (go_at_call 68; refine (isnan2_any _ _).mono ?_; rintro e w1 ⟨rfl, rfl⟩)
          go_ret2
          exact ⟨by rw [HQ.out]; simp, rfl⟩
        · have hxx : (x == n) = false := by simpa using hxn
          have HXN := hid hxn
          clear hxn
          go_wp2_with (go_at_call 68; refine (isnan2_any _ _).mono ?_; rintro e w1 ⟨rfl, rfl⟩)
          go_ret2
          exact ⟨by rw [HQ.out, _root_.decide_eq_false HXN.out]; first | rfl | simp, rfl⟩
      · have HQ : Hid (hh = false) := hid (by
          cases hh
          · rfl
          · obtain ⟨x, h, -⟩ := HH.out.1 rfl
            exact absurd (List.getElem?_eq_some_iff.1 h).1 hpl)
        have hpz : ¬ (lo : Int) < (l.length : Int) := by omega
        go_wp2_with fail
        go_ret2
        exact ⟨by rw [HQ.out]; rfl, rfl⟩
set_option maxRecDepth 100000 in
set_option maxHeartbeats 1000000 in
theorem index_any (l : List B) (v : Value) (n : B) (w : World) (hv : RdL w v 1 strV l) (hl : l.length ≤ 1000000) :
    Calls Try.prog 81 #[v, .string ⟨n.toArray⟩] w fun e w' => ∃ i : Int, e = .returned (.int .i64 i) ∧ decide (0 ≤ i) = has id l n ∧ w = w' := by
  obtain ⟨ao, c, rfl⟩ := hv.shape
  go_enter Try.func81, Try.ntmps81
  go_wp2_with fail
  go_loopw [5, 8] (fun _ i wr => ∃ k : Nat, k ≤ l.length ∧ i = .int .i64 (k : Int) ∧ has id (l.take k) n = false ∧ w = wr)
    (fun _ i _ => l.length - (intOf i).toNat)
  case atStart => exact ⟨0, by omega, rfl, rfl, rfl⟩
  case round =>
    obtain ⟨k, hk, rfl, hb, rfl⟩ := hrel
    have HB := hid hb
    clear hb
    by_cases hkl : k < l.length
    · obtain ⟨b, o, rfl, hc⟩ := hv.at_ (by omega)
      have q := hc k hkl 0 (by omega)
      have HS : Hid (has id (l.take (k + 1)) n = decide (l[k] = n)) := hid (by
        have := HB.out
        unfold has at this ⊢
        rw [List.take_succ_eq_append_getElem hkl, List.any_append, this]
        simp)
      have HM : Hid (l[k] = n → has id l n = true) := hid (fun e => has_iff.2 ⟨l[k], List.getElem_mem hkl, e⟩)
      obtain ⟨x, hxk⟩ : ∃ x, l[k] = x := ⟨_, rfl⟩
      rw [hxk] at q HS HM
      simp only [strV, List.getElem?_cons_zero, Nat.mul_one, Nat.add_zero] at q
      clear hc hv
      by_cases hxn : x = n
      · subst hxn
        have hxx : (x == x) = true := by simp
        go_wp2_with fail
        go_ret
        exact ⟨_, rfl, by rw [HM.out trivial]; simp, rfl⟩
      · have hxx : (n == x) = false := by simpa using fun e : n = x => hxn e.symm
        have HXN := hid hxn
        clear hxn
        go_wp2_with fail
        exact ⟨⟨k + 1, by omega, by go_num, by rw [HS.out]; exact _root_.decide_eq_false HXN.out, trivial⟩, by simp [intOf]; omega⟩
    · obtain rfl : k = l.length := by omega
      rw [List.take_length] at HB
      go_wp2_with fail
      go_ret
      exact ⟨_, rfl, by rw [HB.out]; rfl, rfl⟩
theorem contains_any (l : List B) (v : Value) (n : B) (w : World) (hv : RdL w v 1 strV l) (hl : l.length ≤ 1000000) :
    Calls Try.prog 38 #[v, .string ⟨n.toArray⟩] w fun e w' => e = .returned (.bool (has id l n)) ∧ w = w' := by
  have HI := hid (index_any l v n w hv hl)
  obtain ⟨ao, c, rfl⟩ := hv.shape
  go_enter Try.func38, Try.ntmps38
  go_wp2_with (go_at_call 81; refine HI.out.mono ?_; rintro e w1 ⟨i, rfl, hi, rfl⟩)
  go_ret
  exact ⟨by rw [← hi]; rfl, rfl⟩
end Go.Proofs.Ytekailaoanpcgaa
