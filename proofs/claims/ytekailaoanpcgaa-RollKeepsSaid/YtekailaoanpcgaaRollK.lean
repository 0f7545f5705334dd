/- ContainsFunc over classes, the closures of Teaches and of Leave. Printed by a program (rollk.py). -/
import Derived.Test.YtekailaoanpcgaaRollH
namespace Go.Proofs.Ytekailaoanpcgaa
open Go.RowKit
open Roll
set_option maxRecDepth 100000 in
set_option maxHeartbeats 4000000 in
theorem if_teaches (q : Cls → Bool) (l : List CV) (v : Value) (p1 p2 : Nat) (w : World) (hv : RdL w v 3 clsV l) (hl : l.length ≤ 1000000)
    (hq : ∀ x ∈ l, ∀ w1, Frm No w w1 → Calls Try.prog 37 #[.agg #[.string ⟨x.1.name.toArray⟩, .string ⟨x.1.teacher.toArray⟩, .slice x.2.1 x.1.students.length x.2.2], .pointer (some ⟨p1, 0, none⟩), .pointer (some ⟨p2, 0, none⟩)] w1 fun e w' => e = .returned (.bool (q x.1)) ∧ Frm No w1 w') :
    Calls Try.prog 80 #[v, .func (.func 37) #[] #[.pointer (some ⟨p1, 0, none⟩), .pointer (some ⟨p2, 0, none⟩)]] w fun e w' => ∃ i : Int, e = .returned (.int .i64 i) ∧ decide (0 ≤ i) = l.any (fun x => q x.1) ∧ Frm No w w' := by
  have HQ := hid hq
  clear hq
  obtain ⟨ao, c, rfl⟩ := hv.shape
  go_enter Try.func80, Try.ntmps80
  go_wp2_with fail
  go_loopw [5, 8] (fun _ i wr => ∃ k : Nat, k ≤ l.length ∧ i = .int .i64 (k : Int) ∧ (l.take k).any (fun x => q x.1) = false ∧ Frm No w wr)
    (fun _ i _ => l.length - (intOf i).toNat)
  case atStart => exact ⟨0, by omega, rfl, rfl, Frm.refl _ _⟩
  case round =>
    obtain ⟨k, hk, rfl, hb, hf⟩ := hrel
    have HB := hid hb
    have HF := hid hf
    clear hb
    by_cases hkl : k < l.length
    · obtain ⟨b, o, rfl, hc⟩ := hv.at_ (by omega)
      have z := hc k hkl
      have HS : Hid ((l.take (k + 1)).any (fun x => q x.1) = q l[k].1) := hid (by
        rw [List.take_succ_eq_append_getElem hkl, List.any_append, HB.out]
        simp)
      have HM : Hid (q l[k].1 = true → l.any (fun x => q x.1) = true) := hid (fun e => List.any_eq_true.2 ⟨l[k], List.getElem_mem hkl, e⟩)
      have HX := hid (fun w1 => HQ.out l[k] (List.getElem_mem hkl) w1)
      obtain ⟨x, hxk⟩ : ∃ x, l[k] = x := ⟨_, rfl⟩
      rw [hxk] at z HS HM HX
      have hbw : b < w.heap.size := World.block_lt_of_cell? (u := .string ⟨(cname x).toArray⟩) w ⟨b, o + (k * 3 + 0), none⟩ (by rw [z 0 (by omega)]; rfl)
      have r0 : wr.cell? ⟨b, o + k * 3, none⟩ = (clsV x)[0]? := (hf.cell hbw (fun h => h)).trans (z 0 (by omega))
      have r1 : wr.cell? ⟨b, o + k * 3 + 1, none⟩ = (clsV x)[1]? := (hf.cell hbw (fun h => h)).trans (z 1 (by omega))
      have r2 : wr.cell? ⟨b, o + k * 3 + 2, none⟩ = (clsV x)[2]? := (hf.cell hbw (fun h => h)).trans (z 2 (by omega))
      obtain ⟨⟨nm, te, st⟩, sa, sc⟩ := x
      simp only [clsV, List.getElem?_cons_zero, List.getElem?_cons_succ] at r0 r1 r2
      dsimp only at HX HS HM
      have HR := hid (HX.out wr hf)
      clear hc hv hf HX z
      generalize hqe : q ⟨nm, te, st⟩ = qq at *
      cases qq
      · go_wp2_with (go_at_call 37; refine HR.out.mono ?_; rintro e w1 ⟨rfl, hf1⟩)
        exact ⟨⟨k + 1, by omega, by go_num, HS.out, HF.out.thenNo hf1⟩, by simp [intOf]; omega⟩
      · go_wp2_with (go_at_call 37; refine HR.out.mono ?_; rintro e w1 ⟨rfl, hf1⟩)
        go_ret
        exact ⟨_, rfl, by rw [HM.out trivial]; simp, HF.out.thenNo hf1⟩
    · obtain rfl : k = l.length := by omega
      rw [List.take_length] at HB
      have hpz : ¬ (l.length : Int) < (l.length : Int) := by omega
      clear hf
      go_wp2_with fail
      go_ret
      exact ⟨_, rfl, by rw [HB.out]; rfl, HF.out⟩
set_option maxRecDepth 100000 in
set_option maxHeartbeats 4000000 in
theorem cf_teaches (q : Cls → Bool) (l : List CV) (v : Value) (p1 p2 : Nat) (w : World) (hv : RdL w v 3 clsV l) (hl : l.length ≤ 1000000)
    (hq : ∀ x ∈ l, ∀ w1, Frm No w w1 → Calls Try.prog 37 #[.agg #[.string ⟨x.1.name.toArray⟩, .string ⟨x.1.teacher.toArray⟩, .slice x.2.1 x.1.students.length x.2.2], .pointer (some ⟨p1, 0, none⟩), .pointer (some ⟨p2, 0, none⟩)] w1 fun e w' => e = .returned (.bool (q x.1)) ∧ Frm No w1 w') :
    Calls Try.prog 36 #[v, .func (.func 37) #[] #[.pointer (some ⟨p1, 0, none⟩), .pointer (some ⟨p2, 0, none⟩)]] w fun e w' => e = .returned (.bool (l.any (fun x => q x.1))) ∧ Frm No w w' := by
  have HI := hid (if_teaches q l v p1 p2 w hv hl hq)
  obtain ⟨ao, c, rfl⟩ := hv.shape
  clear hq hv
  go_enter Try.func36, Try.ntmps36
  go_wp2_with (go_at_call 80; refine HI.out.mono ?_; rintro e w1 ⟨i, rfl, hi, hf⟩)
  go_ret
  exact ⟨by rw [← hi]; rfl, hf⟩
set_option maxRecDepth 100000 in
set_option maxHeartbeats 4000000 in
theorem if_leave (q : Cls → Bool) (l : List CV) (v : Value) (p1 : Nat) (w : World) (hv : RdL w v 3 clsV l) (hl : l.length ≤ 1000000)
    (hq : ∀ x ∈ l, ∀ w1, Frm No w w1 → Calls Try.prog 74 #[.agg #[.string ⟨x.1.name.toArray⟩, .string ⟨x.1.teacher.toArray⟩, .slice x.2.1 x.1.students.length x.2.2], .pointer (some ⟨p1, 0, none⟩)] w1 fun e w' => e = .returned (.bool (q x.1)) ∧ Frm No w1 w') :
    Calls Try.prog 80 #[v, .func (.func 74) #[] #[.pointer (some ⟨p1, 0, none⟩)]] w fun e w' => ∃ i : Int, e = .returned (.int .i64 i) ∧ decide (0 ≤ i) = l.any (fun x => q x.1) ∧ Frm No w w' := by
  have HQ := hid hq
  clear hq
  obtain ⟨ao, c, rfl⟩ := hv.shape
  go_enter Try.func80, Try.ntmps80
  go_wp2_with fail
  go_loopw [5, 8] (fun _ i wr => ∃ k : Nat, k ≤ l.length ∧ i = .int .i64 (k : Int) ∧ (l.take k).any (fun x => q x.1) = false ∧ Frm No w wr)
    (fun _ i _ => l.length - (intOf i).toNat)
  case atStart => exact ⟨0, by omega, rfl, rfl, Frm.refl _ _⟩
  case round =>
    obtain ⟨k, hk, rfl, hb, hf⟩ := hrel
    have HB := hid hb
    have HF := hid hf
    clear hb
    by_cases hkl : k < l.length
    · obtain ⟨b, o, rfl, hc⟩ := hv.at_ (by omega)
      have z := hc k hkl
      have HS : Hid ((l.take (k + 1)).any (fun x => q x.1) = q l[k].1) := hid (by
        rw [List.take_succ_eq_append_getElem hkl, List.any_append, HB.out]
        simp)
      have HM : Hid (q l[k].1 = true → l.any (fun x => q x.1) = true) := hid (fun e => List.any_eq_true.2 ⟨l[k], List.getElem_mem hkl, e⟩)
      have HX := hid (fun w1 => HQ.out l[k] (List.getElem_mem hkl) w1)
      obtain ⟨x, hxk⟩ : ∃ x, l[k] = x := ⟨_, rfl⟩
      rw [hxk] at z HS HM HX
      have hbw : b < w.heap.size := World.block_lt_of_cell? (u := .string ⟨(cname x).toArray⟩) w ⟨b, o + (k * 3 + 0), none⟩ (by rw [z 0 (by omega)]; rfl)
      have r0 : wr.cell? ⟨b, o + k * 3, none⟩ = (clsV x)[0]? := (hf.cell hbw (fun h => h)).trans (z 0 (by omega))
      have r1 : wr.cell? ⟨b, o + k * 3 + 1, none⟩ = (clsV x)[1]? := (hf.cell hbw (fun h => h)).trans (z 1 (by omega))
      have r2 : wr.cell? ⟨b, o + k * 3 + 2, none⟩ = (clsV x)[2]? := (hf.cell hbw (fun h => h)).trans (z 2 (by omega))
      obtain ⟨⟨nm, te, st⟩, sa, sc⟩ := x
      simp only [clsV, List.getElem?_cons_zero, List.getElem?_cons_succ] at r0 r1 r2
      dsimp only at HX HS HM
      have HR := hid (HX.out wr hf)
      clear hc hv hf HX z
      generalize hqe : q ⟨nm, te, st⟩ = qq at *
      cases qq
      · go_wp2_with (go_at_call 74; refine HR.out.mono ?_; rintro e w1 ⟨rfl, hf1⟩)
        exact ⟨⟨k + 1, by omega, by go_num, HS.out, HF.out.thenNo hf1⟩, by simp [intOf]; omega⟩
      · go_wp2_with (go_at_call 74; refine HR.out.mono ?_; rintro e w1 ⟨rfl, hf1⟩)
        go_ret
        exact ⟨_, rfl, by rw [HM.out trivial]; simp, HF.out.thenNo hf1⟩
    · obtain rfl : k = l.length := by omega
      rw [List.take_length] at HB
      have hpz : ¬ (l.length : Int) < (l.length : Int) := by omega
      clear hf
      go_wp2_with fail
      go_ret
      exact ⟨_, rfl, by rw [HB.out]; rfl, HF.out⟩
set_option maxRecDepth 100000 in
set_option maxHeartbeats 4000000 in
theorem cf_leave (q : Cls → Bool) (l : List CV) (v : Value) (p1 : Nat) (w : World) (hv : RdL w v 3 clsV l) (hl : l.length ≤ 1000000)
    (hq : ∀ x ∈ l, ∀ w1, Frm No w w1 → Calls Try.prog 74 #[.agg #[.string ⟨x.1.name.toArray⟩, .string ⟨x.1.teacher.toArray⟩, .slice x.2.1 x.1.students.length x.2.2], .pointer (some ⟨p1, 0, none⟩)] w1 fun e w' => e = .returned (.bool (q x.1)) ∧ Frm No w1 w') :
    Calls Try.prog 36 #[v, .func (.func 74) #[] #[.pointer (some ⟨p1, 0, none⟩)]] w fun e w' => e = .returned (.bool (l.any (fun x => q x.1))) ∧ Frm No w w' := by
  have HI := hid (if_leave q l v p1 w hv hl hq)
  obtain ⟨ao, c, rfl⟩ := hv.shape
  clear hq hv
  go_enter Try.func36, Try.ntmps36
  go_wp2_with (go_at_call 80; refine HI.out.mono ?_; rintro e w1 ⟨i, rfl, hi, hf⟩)
  go_ret
  exact ⟨by rw [← hi]; rfl, hf⟩
end Go.Proofs.Ytekailaoanpcgaa
